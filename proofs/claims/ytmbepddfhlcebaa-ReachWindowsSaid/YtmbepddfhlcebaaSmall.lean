/-
  What the chapter's small functions give, in closed form.
-/
import Derived.Test.YtmbepddfhlcebaaKnown
import Derived.Test.YtmbepddfhlcebaaClose
namespace Go.Proofs.Ytmbepddfhlcebaa.Am
open Go
set_option linter.unusedVariables false
set_option linter.unusedSimpArgs false

set_option maxRecDepth 100000 in
theorem nf12 (x : Int) (y : Int) : callC Try.prog an1 (8 : Nat) AV (AV.fn (12 : FuncId) [] []) [AV.agg [AV.int IntKind.i64 x, AV.int IntKind.i64 y]]
  Heap.empty kv =
  (if decide ((1000000 : Int) < x) = true then some (AV.bool true)
else
  if decide (x < (-1000000 : Int)) = true then some (AV.bool true)
  else
    if decide ((1000000 : Int) < y) = true then some (AV.bool true) else some (AV.bool (decide (y < (-1000000 : Int))))) := by kernel_rfl

set_option maxRecDepth 100000 in
theorem nf13 (k : Int) (x : Int) (y : Int) (u : Int) (v : Int) : callC Try.prog an1 (8 : Nat) AV (AV.fn (13 : FuncId) [] [])
  [AV.int IntKind.i64 k, AV.agg [AV.int IntKind.i64 x, AV.int IntKind.i64 y],
    AV.agg [AV.int IntKind.i64 u, AV.int IntKind.i64 v]]
  Heap.empty kv =
  (if decide (k = (1 : Int)) = true then
  some
    (AV.int IntKind.i64
      (wK IntKind.i64
        (mxI (wK IntKind.i64 (x - u)) (wK IntKind.i64 ((0 : Int) - wK IntKind.i64 (x - u))) +
          mxI (wK IntKind.i64 (y - v)) (wK IntKind.i64 ((0 : Int) - wK IntKind.i64 (y - v))))))
else
  some
    (AV.int IntKind.i64
      (mxI
        (mxI (mxI (wK IntKind.i64 (x - u)) (wK IntKind.i64 ((0 : Int) - wK IntKind.i64 (x - u))))
          (mxI (wK IntKind.i64 (y - v)) (wK IntKind.i64 ((0 : Int) - wK IntKind.i64 (y - v)))))
        (mxI (wK IntKind.i64 (wK IntKind.i64 (x - u) + wK IntKind.i64 (y - v)))
          (wK IntKind.i64 ((0 : Int) - wK IntKind.i64 (wK IntKind.i64 (x - u) + wK IntKind.i64 (y - v)))))))) := by kernel_rfl

set_option maxRecDepth 100000 in
theorem nf11 (k : Int) (x : Int) (y : Int) (u : Int) (v : Int) : callC Try.prog an1 (8 : Nat) AV (AV.fn (11 : FuncId) [] [])
  [AV.int IntKind.i64 k, AV.agg [AV.int IntKind.i64 x, AV.int IntKind.i64 y],
    AV.agg [AV.int IntKind.i64 u, AV.int IntKind.i64 v]]
  Heap.empty kv =
  (if (!decide (k = (1 : Int))) = true then
  if (!decide (k = (2 : Int))) = true then some (AV.tuple [AV.int IntKind.i64 (0 : Int), AV.int IntKind.i64 (12 : Int)])
  else
    if decide ((1000000 : Int) < x) = true then
      some (AV.tuple [AV.int IntKind.i64 (0 : Int), AV.int IntKind.i64 (3 : Int)])
    else
      if decide (x < (-1000000 : Int)) = true then
        some (AV.tuple [AV.int IntKind.i64 (0 : Int), AV.int IntKind.i64 (3 : Int)])
      else
        if decide ((1000000 : Int) < y) = true then
          some (AV.tuple [AV.int IntKind.i64 (0 : Int), AV.int IntKind.i64 (3 : Int)])
        else
          if decide (y < (-1000000 : Int)) = true then
            some (AV.tuple [AV.int IntKind.i64 (0 : Int), AV.int IntKind.i64 (3 : Int)])
          else
            if decide ((1000000 : Int) < u) = true then
              some (AV.tuple [AV.int IntKind.i64 (0 : Int), AV.int IntKind.i64 (3 : Int)])
            else
              if decide (u < (-1000000 : Int)) = true then
                some (AV.tuple [AV.int IntKind.i64 (0 : Int), AV.int IntKind.i64 (3 : Int)])
              else
                if decide ((1000000 : Int) < v) = true then
                  some (AV.tuple [AV.int IntKind.i64 (0 : Int), AV.int IntKind.i64 (3 : Int)])
                else
                  if decide (v < (-1000000 : Int)) = true then
                    some (AV.tuple [AV.int IntKind.i64 (0 : Int), AV.int IntKind.i64 (3 : Int)])
                  else
                    if decide (k = (2 : Int)) = true then
                      some
                        (AV.tuple
                          [AV.int IntKind.i64
                              (mxI
                                (mxI
                                  (mxI (wK IntKind.i64 (u - x)) (wK IntKind.i64 ((0 : Int) - wK IntKind.i64 (u - x))))
                                  (mxI (wK IntKind.i64 (v - y)) (wK IntKind.i64 ((0 : Int) - wK IntKind.i64 (v - y)))))
                                (mxI (wK IntKind.i64 (wK IntKind.i64 (u - x) + wK IntKind.i64 (v - y)))
                                  (wK IntKind.i64
                                    ((0 : Int) - wK IntKind.i64 (wK IntKind.i64 (u - x) + wK IntKind.i64 (v - y)))))),
                            AV.int IntKind.i64 (0 : Int)])
                    else
                      some
                        (AV.tuple
                          [AV.int IntKind.i64
                              (wK IntKind.i64
                                (mxI (wK IntKind.i64 (u - x)) (wK IntKind.i64 ((0 : Int) - wK IntKind.i64 (u - x))) +
                                  mxI (wK IntKind.i64 (v - y)) (wK IntKind.i64 ((0 : Int) - wK IntKind.i64 (v - y))))),
                            AV.int IntKind.i64 (0 : Int)])
else
  if decide ((1000000 : Int) < x) = true then
    some (AV.tuple [AV.int IntKind.i64 (0 : Int), AV.int IntKind.i64 (3 : Int)])
  else
    if decide (x < (-1000000 : Int)) = true then
      some (AV.tuple [AV.int IntKind.i64 (0 : Int), AV.int IntKind.i64 (3 : Int)])
    else
      if decide ((1000000 : Int) < y) = true then
        some (AV.tuple [AV.int IntKind.i64 (0 : Int), AV.int IntKind.i64 (3 : Int)])
      else
        if decide (y < (-1000000 : Int)) = true then
          some (AV.tuple [AV.int IntKind.i64 (0 : Int), AV.int IntKind.i64 (3 : Int)])
        else
          if decide ((1000000 : Int) < u) = true then
            some (AV.tuple [AV.int IntKind.i64 (0 : Int), AV.int IntKind.i64 (3 : Int)])
          else
            if decide (u < (-1000000 : Int)) = true then
              some (AV.tuple [AV.int IntKind.i64 (0 : Int), AV.int IntKind.i64 (3 : Int)])
            else
              if decide ((1000000 : Int) < v) = true then
                some (AV.tuple [AV.int IntKind.i64 (0 : Int), AV.int IntKind.i64 (3 : Int)])
              else
                if decide (v < (-1000000 : Int)) = true then
                  some (AV.tuple [AV.int IntKind.i64 (0 : Int), AV.int IntKind.i64 (3 : Int)])
                else
                  if decide (k = (2 : Int)) = true then
                    some
                      (AV.tuple
                        [AV.int IntKind.i64
                            (mxI
                              (mxI (mxI (wK IntKind.i64 (u - x)) (wK IntKind.i64 ((0 : Int) - wK IntKind.i64 (u - x))))
                                (mxI (wK IntKind.i64 (v - y)) (wK IntKind.i64 ((0 : Int) - wK IntKind.i64 (v - y)))))
                              (mxI (wK IntKind.i64 (wK IntKind.i64 (u - x) + wK IntKind.i64 (v - y)))
                                (wK IntKind.i64
                                  ((0 : Int) - wK IntKind.i64 (wK IntKind.i64 (u - x) + wK IntKind.i64 (v - y)))))),
                          AV.int IntKind.i64 (0 : Int)])
                  else
                    some
                      (AV.tuple
                        [AV.int IntKind.i64
                            (wK IntKind.i64
                              (mxI (wK IntKind.i64 (u - x)) (wK IntKind.i64 ((0 : Int) - wK IntKind.i64 (u - x))) +
                                mxI (wK IntKind.i64 (v - y)) (wK IntKind.i64 ((0 : Int) - wK IntKind.i64 (v - y))))),
                          AV.int IntKind.i64 (0 : Int)])) := by kernel_rfl

theorem wK_id {n : Int} (h1 : -9223372036854775808 ≤ n) (h2 : n ≤ 9223372036854775807) : wK .i64 n = n := by
  unfold wK
  simp only
  split <;> omega
theorem abs_wK {n : Int} (h1 : -9223372036854775807 ≤ n) (h2 : n ≤ 9223372036854775807) : mxI n (wK .i64 (0 - n)) = (n.natAbs : Int) := by
  rw [wK_id (by omega) (by omega)]
  unfold mxI
  split <;> omega

def far (n : Int) : Bool := decide (1000000 < n) || decide (n < -1000000)
def mx (a b : Int) : Int := if b > a then b else a
/-- The distance of two keys whose difference is `(a, b)`. -/
def dist (k a b : Int) : Int := if k = 1 then (a.natAbs : Int) + b.natAbs else mx (mx a.natAbs b.natAbs) (a + b).natAbs
def dErr (k x y u v : Int) : Int := if k ≠ 1 ∧ k ≠ 2 then 12 else if (far x || far y || far u || far v) = true then 3 else 0
def dVal (k x y u v : Int) : Int := if dErr k x y u v = 0 then dist k (u - x) (v - y) else 0


theorem dist_sq {x y u v : Int} (hx : far x = false) (hy : far y = false) (hu : far u = false) (hv : far v = false) :
    wK .i64 (mxI (wK .i64 (u - x)) (wK .i64 (0 - wK .i64 (u - x))) + mxI (wK .i64 (v - y)) (wK .i64 (0 - wK .i64 (v - y)))) = dist 1 (u - x) (v - y) := by
  simp only [far, Bool.or_eq_false_iff, decide_eq_false_iff_not] at hx hy hu hv
  rw [wK_id (n := u - x) (by omega) (by omega), wK_id (n := v - y) (by omega) (by omega), abs_wK (by omega) (by omega), abs_wK (by omega) (by omega), wK_id (by omega) (by omega)]
  simp [dist]
theorem dist_hex {k x y u v : Int} (hk : k ≠ 1) (hx : far x = false) (hy : far y = false) (hu : far u = false) (hv : far v = false) :
    mxI (mxI (mxI (wK .i64 (u - x)) (wK .i64 (0 - wK .i64 (u - x)))) (mxI (wK .i64 (v - y)) (wK .i64 (0 - wK .i64 (v - y))))) (mxI (wK .i64 (wK .i64 (u - x) + wK .i64 (v - y))) (wK .i64 (0 - wK .i64 (wK .i64 (u - x) + wK .i64 (v - y))))) =
      dist k (u - x) (v - y) := by
  simp only [far, Bool.or_eq_false_iff, decide_eq_false_iff_not] at hx hy hu hv
  rw [wK_id (n := u - x) (by omega) (by omega), wK_id (n := v - y) (by omega) (by omega), wK_id (n := u - x + (v - y)) (by omega) (by omega), abs_wK (by omega) (by omega), abs_wK (by omega) (by omega), abs_wK (by omega) (by omega)]
  simp [dist, hk, mxI, mx]

theorem ite_far {α : Type} (n : Int) (a b : α) : (if decide (1000000 < n) = true then a else if decide (n < -1000000) = true then a else b) = if far n = true then a else b := by
  unfold far
  by_cases h1 : 1000000 < n <;> by_cases h2 : n < -1000000 <;> simp [h1, h2]

theorem close11 (k x y u v : Int) : callC Try.prog an1 8 AV (.fn 11 [] []) [.int .i64 k, .agg [.int .i64 x, .int .i64 y], .agg [.int .i64 u, .int .i64 v]] Heap.empty kv =
    some (.tuple [.int .i64 (dVal k x y u v), .int .i64 (dErr k x y u v)]) := by
  rw [nf11]
  simp only [ite_far]
  unfold dVal dErr
  by_cases hx : far x = true
  · by_cases h1 : k = 1 <;> by_cases h2 : k = 2 <;> simp [hx, h1, h2]
  by_cases hy : far y = true
  · by_cases h1 : k = 1 <;> by_cases h2 : k = 2 <;> simp [hx, hy, h1, h2]
  by_cases hu : far u = true
  · by_cases h1 : k = 1 <;> by_cases h2 : k = 2 <;> simp [hx, hy, hu, h1, h2]
  by_cases hv : far v = true
  · by_cases h1 : k = 1 <;> by_cases h2 : k = 2 <;> simp [hx, hy, hu, hv, h1, h2]
  simp only [Bool.not_eq_true] at hx hy hu hv
  by_cases h1 : k = 1
  · subst h1; rw [dist_sq hx hy hu hv]; simp [hx, hy, hu, hv]
  by_cases h2 : k = 2
  · rw [dist_hex h1 hx hy hu hv]; simp [hx, hy, hu, hv, h1, h2]
  · simp [h1, h2]

def wrong (x y : Int) : Bool := far x || far y
theorem close12 (x y : Int) : callC Try.prog an1 8 AV (.fn 12 [] []) [.agg [.int .i64 x, .int .i64 y]] Heap.empty kv = some (.bool (wrong x y)) := by
  rw [nf12]
  unfold wrong far
  by_cases h1 : 1000000 < x <;> by_cases h2 : x < -1000000 <;> by_cases h3 : 1000000 < y <;> simp [h1, h2, h3]

/-- What the law's own function gives. -/
def lawDist (k x y u v : Int) : Int :=
  if k = 1 then wK .i64 (mxI (wK .i64 (x - u)) (wK .i64 (0 - wK .i64 (x - u))) + mxI (wK .i64 (y - v)) (wK .i64 (0 - wK .i64 (y - v))))
  else mxI (mxI (mxI (wK .i64 (x - u)) (wK .i64 (0 - wK .i64 (x - u)))) (mxI (wK .i64 (y - v)) (wK .i64 (0 - wK .i64 (y - v))))) (mxI (wK .i64 (wK .i64 (x - u) + wK .i64 (y - v))) (wK .i64 (0 - wK .i64 (wK .i64 (x - u) + wK .i64 (y - v)))))
theorem dist_neg (k a b : Int) : dist k (-a) (-b) = dist k a b := by
  unfold dist
  rw [Int.natAbs_neg, Int.natAbs_neg, show -a + -b = -(a + b) by omega, Int.natAbs_neg]
theorem lawDist_eq {k x y u v : Int} (hx : far x = false) (hy : far y = false) (hu : far u = false) (hv : far v = false) : lawDist k x y u v = dist k (u - x) (v - y) := by
  rw [show u - x = -(x - u) by omega, show v - y = -(y - v) by omega, dist_neg]
  unfold lawDist
  by_cases h : k = 1
  · rw [if_pos h, dist_sq hu hv hx hy, h]
  · rw [if_neg h, dist_hex h hu hv hx hy]
theorem close13 (k x y u v : Int) : callC Try.prog an1 8 AV (.fn 13 [] []) [.int .i64 k, .agg [.int .i64 x, .int .i64 y], .agg [.int .i64 u, .int .i64 v]] Heap.empty kv = some (.int .i64 (lawDist k x y u v)) := by
  rw [nf13]
  unfold lawDist
  by_cases h : k = 1 <;> simp [h]

/-! ### these calls are known -/
def q11 : List AV → Option AV
  | [.int .i64 k, .agg [.int .i64 x, .int .i64 y], .agg [.int .i64 u, .int .i64 v]] => some (.tuple [.int .i64 (dVal k x y u v), .int .i64 (dErr k x y u v)])
  | _ => none
def q12 : List AV → Option AV
  | [.agg [.int .i64 x, .int .i64 y]] => some (.bool (wrong x y))
  | _ => none
def q13 : List AV → Option AV
  | [.int .i64 k, .agg [.int .i64 x, .int .i64 y], .agg [.int .i64 u, .int .i64 v]] => some (.int .i64 (lawDist k x y u v))
  | _ => none
def orc2 : FuncId → Option Orc := fun f =>
  bif Nat.beq f 11 then some (Orc.of q11) else bif Nat.beq f 12 then some (Orc.of q12) else bif Nat.beq f 13 then some (Orc.of q13) else orc1 f
def an2 : An := { an0 with orc := orc2 }
theorem ok2 : ProgOk Try.prog an2 := by
  refine ok1.more fun f q hq => ?_
  unfold orc2 at hq
  cases e : Nat.beq f 11 with
  | true =>
    rw [e] at hq; cases hq
    have := Nat.eq_of_beq_eq_true e; subst this
    refine orc_flat (an' := { an1 with orc := orc2 }) ok1 rfl rfl fun args v h => ?_
    simp only [Orc.of] at h
    unfold q11 at h
    split at h
    · cases h; exact ⟨rfl, 8, value_of rfl (close11 _ _ _ _ _)⟩
    · cases h
  | false =>
  rw [e] at hq
  cases e : Nat.beq f 12 with
  | true =>
    rw [e] at hq; cases hq
    have := Nat.eq_of_beq_eq_true e; subst this
    refine orc_flat (an' := { an1 with orc := orc2 }) ok1 rfl rfl fun args v h => ?_
    simp only [Orc.of] at h
    unfold q12 at h
    split at h
    · cases h; exact ⟨rfl, 8, value_of rfl (close12 _ _)⟩
    · cases h
  | false =>
  rw [e] at hq
  cases e : Nat.beq f 13 with
  | true =>
    rw [e] at hq; cases hq
    have := Nat.eq_of_beq_eq_true e; subst this
    refine orc_flat (an' := { an1 with orc := orc2 }) ok1 rfl rfl fun args v h => ?_
    simp only [Orc.of] at h
    unfold q13 at h
    split at h
    · cases h; exact ⟨rfl, 8, value_of rfl (close13 _ _ _ _ _)⟩
    · cases h
  | false =>
  rw [e] at hq
  exact OrcOk.again (an := an1) (an' := { an1 with orc := orc2 }) ok1 rfl hq
end Go.Proofs.Ytmbepddfhlcebaa.Am
