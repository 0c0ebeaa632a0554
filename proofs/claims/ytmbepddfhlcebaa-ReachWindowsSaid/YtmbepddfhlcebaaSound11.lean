/-
  Going on with what a call gives is the same as handing it back first.
-/
import Derived.Test.YtmbepddfhlcebaaSound10
namespace Go.Proofs.Ytmbepddfhlcebaa.Am
open Go
set_option linter.unusedVariables false
set_option linter.unusedSimpArgs false

section nat
variable {P : Program} {an : An} {g : AV → List AV → Heap → Option (AV × Heap)}

abbrev flow {R : Type} (K : AV → Heap → Option R) : AV × Heap → Option R := fun p => K p.1 p.2
abbrev tw (t : Tm) (H : Heap) : Option (Tm × Heap) := some (t, H)
abbrev three (ex : Ex) (t : Tm) (H : Heap) : Option (Ex × Tm × Heap) := some (ex, t, H)

theorem op_nat (han : an.pr = Prim.std) {R : Type} (o : Oper) (ρ : Operand → AV) (H : Heap) (K : AV → Heap → Option R) :
    opK P an (bindCall g) o ρ H K = (opK P an (bindCall g) o ρ H two).bind (flow K) := by
  by_cases h : isLoudO o = true ∨ isLoadO o = true ∨ isPureO o = true
  · exact op_two han h ρ H K
  · obtain ⟨dst, op, ty', pos, after, guard⟩ := o
    cases op <;> first | rfl | (exfalso; apply h; simp [isLoudO, isAllocO, isLoadO, isPureO]; done) | skip
    rename_i c
    obtain ⟨callee, args, argTypes⟩ := c
    cases callee with
    | value f => exfalso; apply h; simp [isLoudO, isAllocO]
    | invoke _ _ => rfl
    | builtin b =>
      cases b <;> first | (exfalso; apply h; simp [isLoudO, isAllocO, isLoadO, isPureO]; done) | skip
      all_goals simp only [opK]; unfold builtinK; split <;> first | rfl | (rename_i h _; cases h; done) | (rename_i h; cases h; done)

theorem guard_nat {R S : Type} {L : List Oper} {o : Oper} {t : Tm} {go skip : Tm → Option R} {go' skip' : Tm → Option S} {F : S → Option R} (h1 : ∀ t, go t = (go' t).bind F) (h2 : ∀ t, skip t = (skip' t).bind F) :
    guardK L o t go skip = (guardK L o t go' skip').bind F := by
  unfold guardK
  split
  · exact h1 t
  · split
    · rfl
    · split
      · split
        · rw [Tri.setK_eq, Tri.setK_eq, cond_bind, h1, h2]
        · rw [Tri.setK_eq, Tri.setK_eq, cond_bind, h1, h2]
      · exact h2 _
      · rfl

theorem tset_nat {R S : Type} {t : Tm} {d : Option Tmp} {v : AV} {K : Tm → Option R} {K' : Tm → Option S} {F : S → Option R} (h : ∀ t, K t = (K' t).bind F) : tsetK t d v K = (tsetK t d v K').bind F := by
  cases d with
  | none => exact h t
  | some d => simp only [tsetK, Tri.setK_eq]; exact h _

theorem ops_nat (han : an.pr = Prim.std) {R : Type} (ops : Array Oper) (K : Tm → Heap → Option R) : ∀ (l : List Nat) (t : Tm) (H : Heap),
    opsK P an (bindCall g) ops l t H K = (opsK P an (bindCall g) ops l t H tw).bind fun p => K p.1 p.2 := by
  intro l
  induction l with
  | nil => intro t H; rfl
  | cons i rest ih =>
    intro t H
    simp only [opsK]
    split
    · rfl
    · refine guard_nat (fun t => ?_) (fun t => tset_nat fun t => ih t H)
      rw [op_nat han _ _ _ (fun v H' => an.pr.av v fun v => tsetK t _ v fun t => opsK P an (bindCall g) ops rest t H' K), op_nat han _ _ _ (fun v H' => an.pr.av v fun v => tsetK t _ v fun t => opsK P an (bindCall g) ops rest t H' tw), Option.bind_assoc]
      congr 1; funext p
      simp only [flow, han, Prim.std]
      exact tset_nat fun t => ih t _

theorem drawK_nat (han : an.pr = Prim.std) {R : Type} (ops : Array Oper) (rg : List (Nat × Nat × Nat)) (K : Tm → Heap → Option R) : ∀ (l : List Nat) (t : Tm) (H : Heap) (recs : List (Nat × Heap × Heap)) (ns : List Note),
    drawK P an (bindCall g) ops rg l t H recs ns K = (drawK P an (bindCall g) ops rg l t H recs ns tw).bind fun p => K p.1 p.2 := by
  intro l
  induction l with
  | nil => intro t H recs ns; simp only [drawK]; rw [cond_bind]; rfl
  | cons i rest ih =>
    intro t H recs ns
    simp only [drawK]
    split
    · rfl
    · refine guard_nat (fun t => ?_) (fun t => tset_nat fun t => ih t H _ _)
      rename_i o _
      rw [op_nat han _ _ _ (fun v H' => an.pr.av v fun v => tsetK t _ v fun t' => drawK P an (bindCall g) ops rg rest t' H' (bif isLoudO o then (i, H, H') :: recs else recs) (noteOf P rg i o (evalA t) ++ ns) K),
        op_nat han _ _ _ (fun v H' => an.pr.av v fun v => tsetK t _ v fun t' => drawK P an (bindCall g) ops rg rest t' H' (bif isLoudO o then (i, H, H') :: recs else recs) (noteOf P rg i o (evalA t) ++ ns) tw), Option.bind_assoc]
      congr 1; funext p
      simp only [flow, han, Prim.std]
      exact tset_nat fun t => ih t _ _ _

theorem region_nat (han : an.pr = Prim.std) {R : Type} (fid : FuncId) (id : Nat) (ops : Array Oper) (d : Bool) (t : Tm) (H : Heap) (K : Tm → Heap → Option R) :
    regionK P an (bindCall g) fid id ops d t H K = (regionK P an (bindCall g) fid id ops d t H tw).bind fun p => K p.1 p.2 := by
  unfold regionK
  rw [cond_bind]
  congr 1
  · split
    · rfl
    · exact ops_nat han ops K _ t H
    · exact drawK_nat han ops _ K _ t H [] []
  · exact ops_nat han ops K _ t H

def RunNat (x : (R : Type) → Run R) : Prop := ∀ (R : Type) (t : Tm) (H : Heap) (K : Ex → Tm → Heap → Option R), x R t H K = (x _ t H three).bind fun p => K p.1 p.2.1 p.2.2

theorem keepL_eq {R : Type} : ∀ (ks : List Nat) (t u : Tm) (K : Tm → R), keepL ks t u K = K (keepL ks t u id) := by
  intro ks
  induction ks with
  | nil => intro t u K; rfl
  | cons k ks ih => intro t u K; simp only [keepL, Tri.setK_eq]; exact ih _ _ K
theorem keepK_eq {R : Type} (ks : Option (List Nat)) (t : Tm) (K : Tm → R) : keepK ks t K = K (keepK ks t id) := by
  cases ks with
  | none => rfl
  | some ks => exact keepL_eq ks t .leaf K

def kept (ks : Option (List Nat)) (t : Tm) : Tm := keepK ks t id
theorem keepK_kept {R : Type} (ks : Option (List Nat)) (t : Tm) (K : Tm → R) : keepK ks t K = K (kept ks t) := keepK_eq ks t K

theorem packL_eq {R : Type} (han : an.pr = Prim.std) (H : Heap) (n : Nat) (G : List Gr) (gs : List Nat) (t : Tm) : ∀ (ks : List Nat) (u : Tm) (K : Tm → R), packL an H n G gs t ks u K = K (packL an H n G gs t ks u id) := by
  intro ks
  induction ks with
  | nil => intro u K; rfl
  | cons k ks ih => intro u K; simp only [packL, han, Prim.std, Tri.setK_eq]; exact ih _ K
theorem cells_nat (han : an.pr = Prim.std) {R : Type} (pln : Bool) (H : Heap) (n : Nat) (bad : List (Nat × Bool)) (nest : Bool) (c : List AV) (K : List AV → Option R) : cellsK an pln H n bad nest c K = (cellsK an pln H n bad nest c some).bind K := by
  unfold cellsK
  rw [cond_bind, cond_bind]
  simp only [han, Prim.std]
  rfl
theorem packH_nat (han : an.pr = Prim.std) {R : Type} (pln : Bool) (H : Heap) (n : Nat) (ids : List (Nat × Bool)) (K : Heap → Option R) : ∀ (G : List Gr) (N : Heap), packH an pln H n ids G N K = (packH an pln H n ids G N some).bind K := by
  intro G
  induction G with
  | nil => intro N; rfl
  | cons g G ih =>
    intro N
    simp only [packH]
    split
    · rw [cells_nat han pln H n ids _ _ (fun c => an.pr.push N _ fun N => packH an pln H n ids G N K), cells_nat han pln H n ids _ _ (fun c => an.pr.push N _ fun N => packH an pln H n ids G N some), Option.bind_assoc]
      congr 1; funext c
      simp only [han, Prim.std]
      exact ih _
    · rw [cells_nat han pln H n ids _ _ (fun c => an.pr.push N _ fun N => packH an pln H n ids G N K), cells_nat han pln H n ids _ _ (fun c => an.pr.push N _ fun N => packH an pln H n ids G N some), Option.bind_assoc]
      congr 1; funext c
      simp only [han, Prim.std]
      exact ih _
theorem sweepL_nat (han : an.pr = Prim.std) {R : Type} (pln : Bool) (H : Heap) (n : Nat) (xs : List Nat) (bad : List (Nat × Bool)) (K : Heap → Option R) : ∀ (j : Nat) (N : Heap), sweepL an pln H n xs bad j N K = (sweepL an pln H n xs bad j N some).bind K := by
  intro j
  induction j with
  | zero => intro N; rfl
  | succ j ih =>
    intro N
    have cells : ∀ (nest : Bool) (c : List AV) (X : List AV → Obj), (cellsK an pln H n bad nest c fun c => an.pr.push N (X c) fun N => sweepL an pln H n xs bad j N K) =
        (cellsK an pln H n bad nest c fun c => an.pr.push N (X c) fun N => sweepL an pln H n xs bad j N some).bind K := by
      intro nest c X
      rw [cells_nat han pln H n bad nest c (fun c => an.pr.push N (X c) fun N => sweepL an pln H n xs bad j N K), cells_nat han pln H n bad nest c (fun c => an.pr.push N (X c) fun N => sweepL an pln H n xs bad j N some), Option.bind_assoc]
      congr 1; funext c
      simp only [han, Prim.std]
      exact ih _
    have push : ∀ (X : Obj), (an.pr.push N X fun N => sweepL an pln H n xs bad j N K) = (an.pr.push N X fun N => sweepL an pln H n xs bad j N some).bind K := by
      intro X
      simp only [han, Prim.std]
      exact ih _
    simp only [sweepL]
    split
    · exact cells _ _ _
    · split
      · exact cells _ _ _
      · rw [cond_bind]; congr 1 <;> exact push _
      · exact cells _ _ _
      · exact push _
theorem end_nat (han : an.pr = Prim.std) {R : Type} (sw pln : Bool) (n : Nat) (xs : List Nat) (v : AV) (H : Heap) (K : AV → Heap → Option R) : endK an sw pln n xs v H K = (endK an sw pln n xs v H two).bind (flow K) := by
  simp only [endK, sweepK, han, Prim.std]
  rw [cond_bind]
  congr 1
  rw [cond_bind]
  congr 1
  rw [sweepL_nat han pln H n xs _ (fun N => K _ N), sweepL_nat han pln H n xs _ (fun N => two _ N), Option.bind_assoc]
  rfl
theorem mrc_nat (han : an.pr = Prim.std) {R : Type} (m : Mrc) (args : List AV) (H : Heap) (K : AV → Heap → Option R) : mrcK an m args H K = (mrcK an m args H two).bind (flow K) := by
  unfold mrcK
  split
  · rw [Option.bind_assoc]
    congr 1; funext a
    split <;> rfl
  · split
    · rename_i c fam _
      rw [cond_bind]
      congr 1
      rw [Option.bind_assoc]
      congr 1; funext a
      rw [cond_bind]
      congr 1
      simp [han, Prim.std, two, flow]
    · rfl
  · split
    · rename_i c fam _
      rw [cond_bind]
      congr 1
      rw [Option.bind_assoc]
      congr 1; funext a
      rw [cond_bind]
      congr 1
      simp [han, Prim.std, two, flow]
    · rfl
  · rfl
theorem openK_nat (han : an.pr = Prim.std) {R : Type} (K : Heap → Option R) : ∀ (xs : List Nat) (H : Heap), openK an xs H K = (openK an xs H some).bind K := by
  intro xs
  induction xs with
  | nil => intro H; rfl
  | cons x xs ih =>
    intro H
    simp only [openK, han, Prim.std]
    split
    · exact ih _
    · exact ih _
def HeadNat (h : (R : Type) → Head R) : Prop := ∀ (R : Type) (t : Tm) (H : Heap) (K : Tm → Heap → Option R), h R t H K = (h _ t H tw).bind fun p => K p.1 p.2
theorem pack_nat (han : an.pr = Prim.std) (pln : Bool) (n : Nat) (as ks gs : List Nat) : HeadNat fun R => packK (R := R) an pln n as ks gs := by
  intro R t H K
  simp only [packK]
  split
  · rfl
  · rename_i G _
    rw [cond_bind]
    congr 1
    rw [packL_eq han H n G gs t _ _ (fun u => sweepL an pln H n [] _ n Heap.empty fun N => packH an pln H n _ G N fun N => K u N), packL_eq han H n G gs t _ _ (fun u => sweepL an pln H n [] _ n Heap.empty fun N => packH an pln H n _ G N fun N => tw u N),
      sweepL_nat han pln H n [] _ (fun N => packH an pln H n _ G N fun N => K _ N), sweepL_nat han pln H n [] _ (fun N => packH an pln H n _ G N fun N => tw _ N), Option.bind_assoc]
    congr 1; funext N
    rw [packH_nat han pln H n _ (fun N => K _ N), packH_nat han pln H n _ (fun N => tw _ N), Option.bind_assoc]
    rfl
theorem head_nat (han : an.pr = Prim.std) (pln : Bool) (n : Nat) (as : List Nat) (ks gs : Option (List Nat)) : HeadNat fun R => headK an pln n as ks gs := by
  intro R t H K
  simp only [headK]
  cases gs with
  | none => simp only; rw [keepK_kept ks t (fun t => K t H), keepK_kept ks t (fun t => tw t H)]; rfl
  | some gs => exact pack_nat han pln n as _ gs R t H K

theorem done_nat (han : an.pr = Prim.std) (pln : Bool) (n : Nat) (as : List Nat) (x : Option (List Nat × List Nat × List Nat)) (ret : Bool) : HeadNat fun R => doneK an pln n as x ret := by
  intro R t H K
  simp only [doneK]
  cases x with
  | none => rfl
  | some q =>
    simp only
    refine (pack_nat han pln n as _ q.2.2 R t H (fun t H => openK an (accs t as) H fun H => K t H)).trans (Eq.trans ?_ (congrArg (fun (o : Option (Tm × Heap)) => Option.bind o fun p => K p.1 p.2) (pack_nat han pln n as _ q.2.2 _ t H (fun t H => openK an (accs t as) H fun H => tw t H))).symm)
    rw [Option.bind_assoc]
    congr 1; funext p
    rw [openK_nat han (fun H => K p.1 H), openK_nat han (fun H => tw p.1 H), Option.bind_assoc]
    rfl
theorem fix_nat {R : Type} {x : (R : Type) → Run R} (hx : RunNat x) {hd : (R : Type) → Head R} (hh : HeadNat hd) {dn : (R : Type) → Bool → Head R} (hn : ∀ b, HeadNat fun R => dn R b) (K : Ex → Tm → Heap → Option R) : ∀ (k : Nat) (t : Tm) (H : Heap),
    fixN k (fun self t H => x R t H fun ex t H => match ex with
      | .normal => hd R t H fun t H => self t H
      | .ret => dn R true t H fun t H => K .ret t H
      | .exit id => dn R false t H fun t H => K (.exit id) t H) t H =
    (fixN k (fun self t H => x _ t H fun ex t H => match ex with
      | .normal => hd _ t H fun t H => self t H
      | .ret => dn _ true t H fun t H => three .ret t H
      | .exit id => dn _ false t H fun t H => three (.exit id) t H) t H).bind fun p => K p.1 p.2.1 p.2.2 := by
  intro k
  induction k with
  | zero => intro t H; rfl
  | succ k ih =>
    intro t H
    simp only [fixN]
    refine (hx R t H _).trans (Eq.trans ?_ (congrArg (fun o => Option.bind o fun p => K p.1 p.2.1 p.2.2) (hx (Ex × Tm × Heap) t H _)).symm)
    rw [Option.bind_assoc]
    congr 1; funext p
    obtain ⟨ex, t, H⟩ := p
    cases ex with
    | normal =>
      refine (hh R t H _).trans (Eq.trans ?_ (congrArg (fun (o : Option (Ex × Tm × Heap)) => Option.bind o fun p => K p.1 p.2.1 p.2.2) (hh (Ex × Tm × Heap) t H _)).symm)
      rw [Option.bind_assoc]
      congr 1; funext p
      exact ih _ _
    | ret =>
      refine (hn true R t H _).trans (Eq.trans ?_ (congrArg (fun (o : Option (Ex × Tm × Heap)) => Option.bind o fun p => K p.1 p.2.1 p.2.2) (hn true (Ex × Tm × Heap) t H _)).symm)
      rw [Option.bind_assoc]; rfl
    | exit id =>
      refine (hn false R t H _).trans (Eq.trans ?_ (congrArg (fun (o : Option (Ex × Tm × Heap)) => Option.bind o fun p => K p.1 p.2.1 p.2.2) (hn false (Ex × Tm × Heap) t H _)).symm)
      rw [Option.bind_assoc]; rfl

theorem exec_nat (han : an.pr = Prim.std) (fid : FuncId) (rt : Nat) (rd : Option Nat) (k : Nat) : ∀ c : Code, RunNat fun R => exec P an (bindCall g) fid rt rd (fixN k) c := by
  intro c
  induction c with
  | skip => intro R t H K; rfl
  | label _ => intro R t H K; rfl
  | region id ops d =>
    intro R t H K
    simp only [exec]
    rw [region_nat han fid id ops d t H (fun t H => K .normal t H), region_nat han fid id ops d t H (fun t H => three .normal t H), Option.bind_assoc]; rfl
  | seq a b iha ihb =>
    intro R t H K
    simp only [exec, seqC]
    refine (iha R t H _).trans (Eq.trans ?_ (congrArg (fun o => Option.bind o fun p => K p.1 p.2.1 p.2.2) (iha (Ex × Tm × Heap) t H _)).symm)
    simp only
    rw [Option.bind_assoc]
    congr 1; funext p
    obtain ⟨ex, t, H⟩ := p
    cases ex with
    | normal => exact ihb R t H K
    | ret => rfl
    | exit id => rfl
  | cond c a b iha ihb =>
    intro R t H K
    simp only [exec, condC]
    split
    · split
      · split
        · rw [Tri.setK_eq, Tri.setK_eq]; exact iha R _ H K
        · rw [Tri.setK_eq, Tri.setK_eq]; exact ihb R _ H K
      · split
        · exact iha R _ H K
        · exact ihb R _ H K
    · rfl
  | block id b ih =>
    intro R t H K
    simp only [exec, blockC]
    refine (ih R t H _).trans (Eq.trans ?_ (congrArg (fun o => Option.bind o fun p => K p.1 p.2.1 p.2.2) (ih (Ex × Tm × Heap) t H _)).symm)
    simp only
    rw [Option.bind_assoc]
    congr 1; funext p
    obtain ⟨ex, t, H⟩ := p
    cases ex with
    | normal => rfl
    | ret => rfl
    | exit id' => simp only [Option.bind_some]; cases Nat.beq id' id <;> rfl
  | loop b ih =>
    intro R t H K
    simp only [exec, loopC]
    have hh := head_nat (an := an) han (an.plain fid (firstRegion b)) rt (an.acc fid (firstRegion b)) (an.keep fid (firstRegion b)) (an.pack fid (firstRegion b))
    refine (hh R t H _).trans (Eq.trans ?_ (congrArg (fun (o : Option (Ex × Tm × Heap)) => Option.bind o fun p => K p.1 p.2.1 p.2.2) (hh (Ex × Tm × Heap) t H _)).symm)
    rw [Option.bind_assoc]
    congr 1; funext p
    exact fix_nat ih hh (fun b => done_nat (an := an) han (an.plain _ _) rt (an.acc _ _) (an.done _ _) b) K k _ _
  | rangeFunc f ps a b _ _ =>
    intro R t H K
    simp only [exec, rangeC]
    rw [cond_bind]
    congr 1
    simp only [keepK_kept (an.keep fid (firstRegion a)) t]
    simp only [han, Prim.std, bindCall]
    rw [Option.bind_assoc]
    congr 1; funext p
    split
    · rw [cond_bind]
      congr 1
      have hop : ∀ ex zs H', openK an zs H' (fun H' => K ex t H') = (openK an zs H' (fun H' => three ex t H')).bind fun p => K p.1 p.2.1 p.2.2 := fun ex zs H' => by
        rw [openK_nat han (fun H' => K ex t H'), openK_nat han (fun H' => three ex t H'), Option.bind_assoc]; rfl
      split
      · exact hop _ _ _
      · rfl
      · exact hop _ _ _
      · exact hop _ _ _
    · rfl
  | exit id => intro R t H K; rfl
  | scope b ih => intro R t H K; exact ih R t H K
  | ret => intro R t H K; rfl
  | goto _ => intro R t H K; rfl
  | refuse _ => intro R t H K; rfl

theorem resL_nat (t : Tm) (H : Heap) : ∀ (rs : List ResultVar) {R : Type} (K : List AV → Option R), resL P t H rs K = (resL P t H rs some).bind K := by
  intro rs
  induction rs with
  | nil => intro R K; rfl
  | cons r rs ih =>
    intro R K
    simp only [resL]
    cases r with
    | tmp d => simp only [resOne]; rw [ih (fun vs => K (_ :: vs)), ih (fun vs => some (_ :: vs)), Option.bind_assoc]; rfl
    | cell a ty' =>
      simp only [resOne]
      rw [loadK_eq _ _ _ (fun v => resL P t H rs fun vs => K (v :: vs)), loadK_eq _ _ _ (fun v => resL P t H rs fun vs => some (v :: vs)), Option.bind_assoc]
      congr 1; funext v
      rw [ih (fun vs => K (v :: vs)), ih (fun vs => some (v :: vs)), Option.bind_assoc]; rfl
theorem resK_nat (han : an.pr = Prim.std) {R : Type} (rs : List ResultVar) (t : Tm) (H : Heap) (K : AV → Heap → Option R) : resK P an rs t H K = (resK P an rs t H two).bind (flow K) := by
  unfold resK
  rw [resL_nat t H rs, resL_nat (R := AV × Heap) t H rs, Option.bind_assoc]
  congr 1; funext vs
  simp only [han, Prim.std]
  split <;> rfl
theorem tmFrom_eq {R : Type} : ∀ (vs : List AV) (i : Nat) (t : Tm) (K : Tm → R), tmFrom vs i t K = K (tmFrom vs i t id) := by
  intro vs
  induction vs with
  | nil => intro i t K; rfl
  | cons v vs ih => intro i t K; simp only [tmFrom, Tri.setK_eq]; exact ih _ _ K
theorem tmPut_eq {R : Type} : ∀ (ps : List Nat) (vs : List AV) (t : Tm) (K : Tm → R), tmPut ps vs t K = K (tmPut ps vs t id) := by
  intro ps
  induction ps with
  | nil => intro vs t K; cases vs <;> rfl
  | cons p ps ih =>
    intro vs t K
    cases vs with
    | nil => rfl
    | cons v vs => simp only [tmPut, Tri.setK_eq]; exact ih _ _ K

def tmF (vs : List AV) : Tm := tmFrom vs 0 .leaf id
theorem tmFrom_F {R : Type} (vs : List AV) (K : Tm → R) : tmFrom vs 0 .leaf K = K (tmF vs) := tmFrom_eq _ _ _ K
def tmP (ps : List Nat) (vs : List AV) (t : Tm) : Tm := tmPut ps vs t id
theorem tmPut_P {R : Type} (ps : List Nat) (vs : List AV) (t : Tm) (K : Tm → R) : tmPut ps vs t K = K (tmP ps vs t) := tmPut_eq _ _ _ K

theorem fn_nat (han : an.pr = Prim.std) (k : Nat) {R : Type} (f : FuncId) (args : List AV) (H : Heap) (K : AV → Heap → Option R) :
    fnK P an (bindCall g) (fixN k) f args H K = (fnK P an (bindCall g) (fixN k) f args H two).bind (flow K) := by
  unfold fnK
  split
  · rfl
  · split
    · rfl
    · rw [cond_bind]
      congr 1
      simp only [tmFrom_F]
      refine (exec_nat han f _ none k _ R _ H _).trans (Eq.trans ?_ (congrArg (fun o => Option.bind o (flow K)) (exec_nat han f _ none k _ (AV × Heap) _ H _)).symm)
      simp only
      rw [Option.bind_assoc]
      congr 1; funext p
      obtain ⟨ex, t, H⟩ := p
      cases ex with
      | normal => exact resK_nat han _ t H K
      | ret => exact resK_nat han _ t H K
      | exit id => rfl

theorem roundEnd_nat (han : an.pr = Prim.std) {R : Type} (l : Nat) (ex : Ex) (H : Heap) (K : AV → Heap → Option R) : roundEnd an l ex H K = (roundEnd an l ex H two).bind (flow K) := by
  unfold roundEnd
  simp only [han, Prim.std]
  split
  · split <;> rfl
  · rfl
theorem yieldB_nat (han : an.pr = Prim.std) (k : Nat) {R : Type} (l : Nat) (rc : Rec) (args : List AV) (H : Heap) (K : AV → Heap → Option R) :
    yieldB P an (bindCall g) (fixN k) l rc args H K = (yieldB P an (bindCall g) (fixN k) l rc args H two).bind (flow K) := by
  unfold yieldB
  simp only [tmPut_P]
  refine (exec_nat han rc.fn _ (some l) k _ R _ H _).trans (Eq.trans ?_ (congrArg (fun o => Option.bind o (flow K)) (exec_nat han rc.fn _ (some l) k _ (AV × Heap) _ H _)).symm)
  simp only
  rw [Option.bind_assoc]
  congr 1; funext p
  obtain ⟨ex, t, H⟩ := p
  cases ex with
  | ret => rfl
  | exit id => rfl
  | normal =>
    simp only [roundBegin]
    split
    · rw [cond_bind]
      congr 1
      simp only [han, Prim.std]
      refine (exec_nat han rc.fn _ (some l) k _ R _ _ _).trans (Eq.trans ?_ (congrArg (fun o => Option.bind o (flow K)) (exec_nat han rc.fn _ (some l) k _ (AV × Heap) _ _ _)).symm)
      simp only
      rw [Option.bind_assoc]
      congr 1; funext p
      exact roundEnd_nat han l _ _ K
    · rfl
theorem yield_nat (han : an.pr = Prim.std) (k : Nat) {R : Type} (l : Nat) (args : List AV) (H : Heap) (K : AV → Heap → Option R) :
    yieldK P an (bindCall g) (fixN k) l args H K = (yieldK P an (bindCall g) (fixN k) l args H two).bind (flow K) := by
  unfold yieldK
  split
  · rename_i rc _
    rw [cond_bind]
    congr 1
    rw [openK_nat han (fun H1 => yieldB P an (bindCall g) (fixN k) l rc args H1 fun v H2 => endK an _ _ H.next _ v H2 K), openK_nat han (fun H1 => yieldB P an (bindCall g) (fixN k) l rc args H1 fun v H2 => endK an _ _ H.next _ v H2 two), Option.bind_assoc]
    congr 1; funext H1
    rw [yieldB_nat han k l rc args H1 (fun v H2 => endK an _ _ H.next _ v H2 K), yieldB_nat han k l rc args H1 (fun v H2 => endK an _ _ H.next _ v H2 two), Option.bind_assoc]
    congr 1; funext p
    exact end_nat han _ _ _ _ _ _ K
  · rfl

theorem callB_nat (han : an.pr = Prim.std) (k : Nat) {R : Type} (f : AV) (args : List AV) (H : Heap) (K : AV → Heap → Option R) :
    callB P an (bindCall g) (fixN k) f args H K = (callB P an (bindCall g) (fixN k) f args H two).bind (flow K) := by
  cases f <;> try rfl
  · simp only [callB]
    split
    · split
      · split
        · rename_i f first cap _ _ _ _ _ _
          rw [fn_nat han k f (first ++ args ++ cap) H (fun v H' => endK an (an.swf f) (an.plain f 0) H.next [] v H' K), fn_nat han k f (first ++ args ++ cap) H (fun v H' => endK an (an.swf f) (an.plain f 0) H.next [] v H' two), Option.bind_assoc]
          congr 1; funext p
          exact end_nat han _ _ _ _ _ _ K
        · rw [Option.bind_assoc]; rfl
      · exact mrc_nat han _ _ H K
    · rw [Option.bind_assoc]; rfl
  · exact yield_nat han k _ _ H K

/-- Going on with what a call gives is handing it back, and going on. -/
theorem callC_eq (han : an.pr = Prim.std) : ∀ (k : Nat) (R : Type), callC P an k R = bindCall (callV P an k) := by
  intro k
  induction k with
  | zero => intro R; funext f args H K; rfl
  | succ k ih =>
    intro R
    funext f args H K
    simp only [callC, ih R]
    exact callB_nat han k f args H K

theorem callV_of (han : an.pr = Prim.std) {k : Nat} {f : AV} {args : List AV} {H : Heap} {r : AV × Heap} (h : callC P an k (AV × Heap) f args H two = some r) : callV P an k f args H = some r := by
  rw [callC_eq han] at h
  simp only [bindCall, two, Option.bind_eq_some_iff] at h
  obtain ⟨p, h1, h2⟩ := h
  cases h2
  exact h1
end nat
end Go.Proofs.Ytmbepddfhlcebaa.Am
