/-
  The same evaluator with its numbers and memories laid out at once, for runs on closed data in the kernel; it is equal to the plain one.
-/
import Derived.Test.YtmbepddfhlcebaaEval
namespace Go.Proofs.Ytmbepddfhlcebaa.Am
open Go
set_option linter.unusedVariables false
section
variable {R : Type}
def fNat (n : Nat) (K : Nat → R) : R := match n with | 0 => K 0 | m + 1 => K (m + 1)
def fInt (n : Int) (K : Int → R) : R := match n with | .ofNat m => fNat m fun m => K (.ofNat m) | .negSucc m => fNat m fun m => K (.negSucc m)
def fBool (b : Bool) (K : Bool → R) : R := match b with | true => K true | false => K false
theorem fNat_eq (n : Nat) (K : Nat → R) : fNat n K = K n := by cases n <;> rfl
theorem fInt_eq (n : Int) (K : Int → R) : fInt n K = K n := by cases n <;> simp [fInt, fNat_eq]
theorem fBool_eq (b : Bool) (K : Bool → R) : fBool b K = K b := by cases b <;> rfl

mutual
def fAV (v : AV) (K : AV → R) : R :=
  match v with
  | .top => K .top
  | .bool b => fBool b fun b => K (.bool b)
  | .int .i64 n => fInt n fun n => K (.int .i64 n)
  | .int k n => fInt n fun n => K (.int k n)
  | .str s => K (.str s)
  | .ptr none => K (.ptr none)
  | .ptr (some (a, b)) => fNat a fun a => fNat b fun b => K (.ptr (some (a, b)))
  | .slice .nil => K (.slice .nil)
  | .slice (.mk a b c d e) => fNat a fun a => fNat b fun b => fNat c fun c => fNat d fun d => fNat e fun e => K (.slice (.mk a b c d e))
  | .fn f a b => fAVs a fun a => fAVs b fun b => K (.fn f a b)
  | .yield l => fNat l fun l => K (.yield l)
  | .nilFn => K .nilFn
  | .iface t v => fAV v fun v => K (.iface t v)
  | .nilIface => K .nilIface
  | .agg a => fAVs a fun a => K (.agg a)
  | .tuple a => fAVs a fun a => K (.tuple a)
  | .mp none => K (.mp none)
  | .mp (some m) => fNat m fun m => K (.mp (some m))
  | .frz c len cap es => fNat len fun len => K (.frz c len cap es)
  | .fptr c off => fNat off fun off => K (.fptr c off)
def fAVs (vs : List AV) (K : List AV → R) : R :=
  match vs with
  | [] => K []
  | v :: vs => fAV v fun v => fAVs vs fun vs => K (v :: vs)
end
mutual
theorem fAV_eq (v : AV) (K : AV → R) : fAV v K = K v := by
  match v with
  | .top => rfl
  | .bool b => simp [fAV, fBool_eq]
  | .int .i64 n => simp [fAV, fInt_eq]
  | .int .i8 n => simp [fAV, fInt_eq]
  | .int .i16 n => simp [fAV, fInt_eq]
  | .int .i32 n => simp [fAV, fInt_eq]
  | .int .u8 n => simp [fAV, fInt_eq]
  | .int .u16 n => simp [fAV, fInt_eq]
  | .int .u32 n => simp [fAV, fInt_eq]
  | .int .u64 n => simp [fAV, fInt_eq]
  | .str s => rfl
  | .ptr none => rfl
  | .ptr (some (a, b)) => simp [fAV, fNat_eq]
  | .slice .nil => rfl
  | .slice (.mk a b c d e) => simp [fAV, fNat_eq]
  | .fn f a b => simp only [fAV]; rw [fAVs_eq]; rw [fAVs_eq]
  | .yield l => simp [fAV, fNat_eq]
  | .nilFn => rfl
  | .iface t v => simp only [fAV]; rw [fAV_eq]
  | .nilIface => rfl
  | .agg a => simp only [fAV]; rw [fAVs_eq]
  | .tuple a => simp only [fAV]; rw [fAVs_eq]
  | .mp none => rfl
  | .mp (some m) => simp [fAV, fNat_eq]
  | .frz c len cap es => simp [fAV, fNat_eq]
  | .fptr c off => simp [fAV, fNat_eq]
theorem fAVs_eq (vs : List AV) (K : List AV → R) : fAVs vs K = K vs := by
  match vs with
  | [] => rfl
  | v :: vs => simp only [fAVs]; rw [fAV_eq]; rw [fAVs_eq]
end

def fKill (f p ex : Nat) : Tri Obj → Nat → Nat → (Tri Obj → R) → R
  | .leaf, _, _, K => K .leaf
  | .node v l r, a, b, K =>
    fKill f p ex l (2 * a) (a + b) fun l => fKill f p ex r (2 * a) (2 * a + b) fun r =>
      match v with
      | none => K (.node none l r)
      | some x => bif x.hit b f p ex then K (.node (some .dead) l r) else K (.node (some x) l r)
theorem fKill_eq (f p ex : Nat) : ∀ (t : Tri Obj) (a b : Nat) (K : Tri Obj → R), fKill f p ex t a b K = K (t.kill f p ex a b) := by
  intro t
  induction t with
  | leaf => intro a b K; rfl
  | node v l r ihl ihr =>
    intro a b K
    simp only [fKill, ihl, ihr, Tri.kill]
    cases v with
    | none => rfl
    | some x => cases h : x.hit b f p ex <;> simp [h]
end

def wKS (k : IntKind) (n : Int) : Int :=
  match k, n with
  | .i64, .ofNat m => bif Nat.ble m 9223372036854775807 then .ofNat m else wK .i64 (.ofNat m)
  | .i64, .negSucc m => bif Nat.ble m 9223372036854775807 then .negSucc m else wK .i64 (.negSucc m)
  | k, n => wK k n
theorem bif_ble {α : Type} {a b : Nat} {x y : α} (h : a ≤ b → x = y) : (bif Nat.ble a b then x else y) = y := by
  cases e : Nat.ble a b with
  | false => rfl
  | true => exact h (Nat.le_of_ble_eq_true e)
theorem wKS_eq (k : IntKind) (n : Int) : wKS k n = wK k n := by
  unfold wKS
  split
  · refine bif_ble fun h => ?_
    simp only [wK, Int.ofNat_eq_natCast]
    split <;> omega
  · refine bif_ble fun h => ?_
    simp only [wK, Int.negSucc_eq]
    split <;> omega
  · rfl

def Prim.strict : Prim :=
  ⟨fun v K => fAV v K, fun v K => fAVs v K, fun H i x K => H.tri.setK i x fun t => K ⟨H.next, t⟩,
   fun H x K => H.tri.setK H.next x fun t => fNat (H.next + 1) fun n => K ⟨n, t⟩, fun H f p ex K => fKill f p ex H.tri 1 0 fun t => K ⟨H.next, t⟩, wKS⟩
theorem strict_eq : Prim.strict = Prim.std := by
  have a : (fun {R : Type} (v : AV) (K : AV → R) => fAV v K) = fun {R : Type} v K => K v := by funext R v K; exact fAV_eq v K
  have b : (fun {R : Type} (v : List AV) (K : List AV → R) => fAVs v K) = fun {R : Type} v K => K v := by funext R v K; exact fAVs_eq v K
  have c : (fun {R : Type} (H : Heap) (i : Nat) (x : Obj) (K : Heap → R) => H.tri.setK i x fun t => K ⟨H.next, t⟩) = fun {R : Type} H i x K => K (H.set i x) := by
    funext R H i x K; rw [Tri.setK_eq]; rfl
  have d : (fun {R : Type} (H : Heap) (x : Obj) (K : Heap → R) => H.tri.setK H.next x fun t => fNat (H.next + 1) fun n => K ⟨n, t⟩) = fun {R : Type} H x K => K (H.push x) := by
    funext R H x K; rw [Tri.setK_eq, fNat_eq]; rfl
  have e : (fun {R : Type} (H : Heap) (f p ex : Nat) (K : Heap → R) => fKill f p ex H.tri 1 0 fun t => K ⟨H.next, t⟩) = fun {R : Type} H f p ex K => K (H.kill f p ex) := by
    funext R H f p ex K; rw [fKill_eq]; rfl
  have g : wKS = wK := by funext k n; exact wKS_eq k n
  unfold Prim.strict Prim.std
  rw [a, b, c, d, e, g]
end Go.Proofs.Ytmbepddfhlcebaa.Am
