/-
  Rows, lists of rows and questions, by value; what the checks answer.
-/
import Derived.Test.YtmbepddfhlcebaaDiam2
namespace Go.Proofs.Ytmbepddfhlcebaa.Am
open Go
set_option linter.unusedVariables false
set_option linter.unusedSimpArgs false

def intsA (l : List Int) : List AV := l.map (AV.int .i64)
abbrev rowA (l : List Int) : AV := .frz (intsA l) l.length none 1
abbrev rowsA (l : List (List Int)) : AV := .frz (l.map rowA) l.length none 1
def decInts : List AV → Option (List Int)
  | [] => some []
  | .int .i64 n :: l => (decInts l).map (n :: ·)
  | _ => none
def viewR : AV → Option (List Int)
  | .slice .nil => some []
  | .frz c n _ es => if es = 1 ∧ n = c.length ∧ n ≤ 9223372036854775807 then decInts c else none
  | _ => none
def decRows : List AV → Option (List (List Int))
  | [] => some []
  | v :: l => (viewR v).bind fun r => (decRows l).map (r :: ·)
def viewRs : AV → Option (List (List Int))
  | .slice .nil => some []
  | .frz c n _ es => if es = 1 ∧ n = c.length ∧ n ≤ 9223372036854775807 then decRows c else none
  | _ => none
theorem decInts_some : ∀ {c : List AV} {l : List Int}, decInts c = some l → c = intsA l
  | [], l, h => by cases h; rfl
  | .int .i64 n :: c, l, h => by
    simp only [decInts, Option.map_eq_some_iff] at h
    obtain ⟨l', h1, rfl⟩ := h
    rw [decInts_some h1]; rfl
  | .top :: _, _, h | .bool _ :: _, _, h | .str _ :: _, _, h | .ptr _ :: _, _, h | .slice _ :: _, _, h | .fn _ _ _ :: _, _, h | .yield _ :: _, _, h | .nilFn :: _, _, h | .iface _ _ :: _, _, h | .nilIface :: _, _, h | .agg _ :: _, _, h | .tuple _ :: _, _, h | .mp _ :: _, _, h | .frz _ _ _ _ :: _, _, h | .fptr _ _ :: _, _, h => by cases h
  | .int .i8 _ :: _, _, h | .int .i16 _ :: _, _, h | .int .i32 _ :: _, _, h | .int .u8 _ :: _, _, h | .int .u16 _ :: _, _, h | .int .u32 _ :: _, _, h | .int .u64 _ :: _, _, h => by cases h
theorem decInts_ints (l : List Int) : decInts (intsA l) = some l := by
  induction l with
  | nil => rfl
  | cons a l ih => show (decInts (intsA l)).map _ = _; rw [ih]; rfl
theorem intsA_len (l : List Int) : (intsA l).length = l.length := by simp [intsA]
theorem viewR_some {v : AV} {l : List Int} (h : viewR v = some l) : AV.Le v (rowA l) ∧ l.length ≤ 9223372036854775807 := by
  unfold viewR at h
  split at h
  · cases h; exact ⟨AV.Le.nil 1, by simp⟩
  · split at h
    · rename_i hc
      obtain ⟨rfl, rfl, hl⟩ := hc
      have := decInts_some h
      subst this
      rw [intsA_len] at hl ⊢
      exact ⟨AV.Le.cap _ _ _ _, hl⟩
    · cases h
  · cases h
theorem viewR_rowA {l : List Int} {cap : Option Nat} (h : l.length ≤ 9223372036854775807) : viewR (.frz (intsA l) l.length cap 1) = some l := by
  simp only [viewR]
  rw [if_pos ⟨trivial, by rw [intsA_len], h⟩, decInts_ints]
theorem decRows_some : ∀ {c : List AV} {l : List (List Int)}, decRows c = some l → LesA c (l.map rowA) ∧ l.length = c.length ∧ ∀ r ∈ l, r.length ≤ 9223372036854775807
  | [], l, h => by cases h; exact ⟨.nil, rfl, fun r h => by cases h⟩
  | v :: c, l, h => by
    simp only [decRows, Option.bind_eq_some_iff, Option.map_eq_some_iff] at h
    obtain ⟨r, h1, l', h2, rfl⟩ := h
    obtain ⟨a, b, d⟩ := decRows_some h2
    obtain ⟨e, f⟩ := viewR_some h1
    refine ⟨.cons e a, by simp [b], fun r' h => ?_⟩
    cases h with
    | head => exact f
    | tail _ h => exact d r' h
theorem decRows_rows : ∀ {l : List (List Int)}, (∀ r ∈ l, r.length ≤ 9223372036854775807) → decRows (l.map rowA) = some l
  | [], _ => rfl
  | r :: l, h => by
    show (viewR (rowA r)).bind _ = _
    rw [viewR_rowA (h r (by simp)), Option.bind_some]
    show (decRows (l.map rowA)).map _ = _
    rw [decRows_rows fun r' h' => h r' (by simp [h'])]; rfl
theorem LesA.length {xs ys : List AV} (h : LesA xs ys) : xs.length = ys.length := by
  induction h with
  | nil => rfl
  | cons _ _ ih => simp [ih]
theorem AV.Le.trans {a b c : AV} (h : AV.Le a b) (k : AV.Le b c) : AV.Le a c := fun pl u hu => k pl u (h pl u hu)
theorem AV.Le.frz {xs ys : List AV} (h : LesA xs ys) (n es : Nat) (k : Option Nat) : AV.Le (.frz xs n k es) (.frz ys n none es) := by
  intro pl u hu
  have := AV.Le.cap xs n es k pl u hu
  simp only [VR] at this ⊢
  obtain ⟨us, b, i, h1, h2, h3, h4, h5⟩ := this
  exact ⟨us, b, i, h.vrs h1, h2, by rw [← h.length]; exact h3, h4, h5⟩
def bigR (l : List (List Int)) : Prop := l.length ≤ 9223372036854775807 ∧ ∀ r ∈ l, r.length ≤ 9223372036854775807
theorem viewRs_some {v : AV} {l : List (List Int)} (h : viewRs v = some l) : AV.Le v (rowsA l) ∧ bigR l := by
  unfold viewRs at h
  split at h
  · cases h; exact ⟨AV.Le.nil 1, by simp, fun r h => by cases h⟩
  · split at h
    · rename_i hc
      obtain ⟨rfl, rfl, hl⟩ := hc
      obtain ⟨h1, h2, h3⟩ := decRows_some h
      refine ⟨?_, by rw [h2]; exact hl, h3⟩
      rw [← h2]
      exact AV.Le.frz h1 _ _ _
    · cases h
  · cases h
theorem viewRs_rowsA {l : List (List Int)} {cap : Option Nat} (h : bigR l) : viewRs (.frz (l.map rowA) l.length cap 1) = some l := by
  simp only [viewRs]
  rw [if_pos ⟨trivial, by simp, h.1⟩, decRows_rows h.2]

/-! ### what the checks answer -/
def fitsI (n : Int) : Bool := decide (-1000000000 ≤ n) && decide (n ≤ 1000000000)
def idxR : Nat → List Int → Int
  | _, [] => -1
  | i, n :: l => if fitsI n then idxR (i + 1) l else i
def chkR (l : List Int) : Int := if 64 < l.length then 4 else if 0 ≤ idxR 0 l then 4 else 0
def chkAll (w : Int) : List (List Int) → Int
  | [] => 0
  | r :: l => if chkR r ≠ 0 then chkR r else if (r.length : Int) ≠ w then 5 else chkAll w l
structure Qn where
  kind : Int
  o : List Int
  r : List Int
  u : List Int
  ch : List (List Int)
  most : Int
def chkL (k : Int) (o r u : List Int) : Int :=
  if k ≠ 1 ∧ k ≠ 2 then 12 else if chkR o ≠ 0 then chkR o else if 12 < o.length then 4 else chkAll o.length [r, u]
def chkQ (q : Qn) : Int :=
  if chkL q.kind q.o q.r q.u ≠ 0 then chkL q.kind q.o q.r q.u else if q.ch.length = 0 then 13 else if 8 < q.ch.length then 4
  else if chkAll q.o.length q.ch ≠ 0 then chkAll q.o.length q.ch else if q.most < 0 ∨ 20 < q.most then 3 else 0

/-! ### what is known of their calls -/
def dec61 : List AV → Option (List Int)
  | [v, .fn 56 [] []] => viewR v
  | _ => none
abbrev orc61 : Orc := ⟨true, List Int, dec61, fun l => .int .i64 (idxR 0 l)⟩
def dec43 : List AV → Option (List Int)
  | [v] => viewR v
  | _ => none
abbrev orc43 : Orc := ⟨true, List Int, dec43, fun l => .int .i64 (chkR l)⟩
def dec48 : List AV → Option (List (List Int) × Int)
  | [v, .int .i64 w] => (viewRs v).map fun l => (l, w)
  | _ => none
abbrev orc48 : Orc := ⟨true, List (List Int) × Int, dec48, fun a => .int .i64 (chkAll a.2 a.1)⟩
def dec40 : List AV → Option (Int × List Int × List Int × List Int)
  | [.agg [.int .i64 k, a, b, c]] => (viewR a).bind fun a => (viewR b).bind fun b => (viewR c).map fun c => (k, a, b, c)
  | _ => none
abbrev orc40 : Orc := ⟨true, Int × List Int × List Int × List Int, dec40, fun a => .int .i64 (chkL a.1 a.2.1 a.2.2.1 a.2.2.2)⟩
def viewQ : AV → Option Qn
  | .agg [.int .i64 k, a, b, c, d, .int .i64 m] => (viewR a).bind fun a => (viewR b).bind fun b => (viewR c).bind fun c => (viewRs d).map fun d => ⟨k, a, b, c, d, m⟩
  | _ => none
def dec28 : List AV → Option Qn
  | [v] => viewQ v
  | _ => none
abbrev orc28 : Orc := ⟨true, Qn, dec28, fun q => .int .i64 (chkQ q)⟩
def an9 : An := an6.know 61 orc61
def an10 : An := an9.know 43 orc43
def an11 : An := an10.know 48 orc48
def an12 : An := an11.know 40 orc40
def an13 : An := an12.know 28 orc28
/-- The chapter's own check: the length is that of Right. -/
def chk27 (q : Qn) : Int :=
  if chkL q.kind q.o q.r q.u ≠ 0 then chkL q.kind q.o q.r q.u else if q.ch.length = 0 then 13 else if 8 < q.ch.length then 4
  else if chkAll q.r.length q.ch ≠ 0 then chkAll q.r.length q.ch else if q.most < 0 ∨ 20 < q.most then 3 else 0
abbrev orc27 : Orc := ⟨true, Qn, dec28, fun q => .int .i64 (chk27 q)⟩
def few (l : List (List Int)) : Bool := (!l.any fun r => decide (14 < r.length)) && decide (l.length ≤ 13)
def dec26 (args : List AV) : Option Qn := (dec28 args).bind fun q => if q.ch.length ≤ 1048576 then some q else none
abbrev orc26 : Orc := ⟨true, Qn, dec26, fun q => .bool (few (q.ch ++ [q.o, q.r, q.u]))⟩
def an14 : An := an13.know 27 orc27
def an15 : An := an14.know 26 orc26
/-! with a wrong question: the number of the error, less one -/
def errN : Int → Option Nat
  | .ofNat (n + 1) => some n
  | _ => none
abbrev eA (n : Nat) : AV := .int .i64 (Int.ofNat (n + 1))
def decE (args : List AV) : Option Nat := (dec28 args).bind fun q => errN (chkQ q)
def decE2 : List AV → Option Nat
  | [v, .int .i64 _] => decE [v]
  | _ => none
def decE3 : List AV → Option Nat
  | [.agg [k, a, b, c], .frz [d] 1 _ 1, m] => decE [.agg [k, a, b, c, d, m]]
  | _ => none
def decE4 : List AV → Option Nat
  | [.frz [k, a, b, c] 1 _ 4, .frz [d] 1 _ 1, m] => decE [.agg [k, a, b, c, d, m]]
  | _ => none
abbrev orcE37 : Orc := ⟨true, Nat, decE, fun n => .tuple [.slice .nil, .int .i64 0, eA n]⟩
abbrev orcE17 : Orc := ⟨true, Nat, decE, fun n => .tuple [.slice .nil, .int .i64 0, .bool false, eA n]⟩
abbrev orcE29 : Orc := ⟨true, Nat, decE, fun n => .tuple [.int .i64 0, eA n]⟩
abbrev orcE30 : Orc := ⟨true, Nat, decE2, fun n => .tuple [.slice .nil, eA n]⟩
abbrev orcE45 : Orc := ⟨true, Nat, decE3, fun n => .tuple [.slice .nil, eA n]⟩
abbrev orcE24 : Orc := ⟨true, Nat, decE3, fun n => .tuple [.int .i64 0, eA n]⟩
abbrev orcE23 : Orc := ⟨true, Nat, decE3, fun n => .tuple [.int .i64 0, .int .i64 0, eA n]⟩
abbrev orcE25 : Orc := ⟨true, Nat, decE4, fun n => .tuple [.int .i64 0, .int .i64 0, .bool false, eA n]⟩
def anE1 : An := an15.know 37 orcE37
def anE2 : An := anE1.know 17 orcE17
def anE3 : An := anE2.know 45 orcE45
def anE4 : An := anE3.know 24 orcE24
def anE5 : An := anE4.know 23 orcE23
def anE6 : An := anE5.know 25 orcE25
def anE7 : An := anE6.know 29 orcE29
def anE8 : An := anE7.know 30 orcE30
abbrev qA (q : Qn) : AV := .agg [.int .i64 q.kind, rowA q.o, rowA q.r, rowA q.u, rowsA q.ch, .int .i64 q.most]
end Go.Proofs.Ytmbepddfhlcebaa.Am
