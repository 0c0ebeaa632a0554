/-
  How the abstract machine's values and memory stand for the model's: the relation, and what keeps it.
-/
import Derived.Test.YtmbepddfhlcebaaEval
import Derived.Calls
import Derived.Laws.Sem
import Derived.Laws.CopyRow
import Derived.Laws.Cells
namespace Go.Proofs.Ytmbepddfhlcebaa.Am
open Go
set_option linter.unusedVariables false

/-- Where an object's cells lie: from `start` on in a block; up to `stop` the room is its own; are capacities over it exact? -/
structure Place where
  block : Nat
  start : Nat
  stop : Nat
  exact : Bool

/-- The objects' places, and what lies in the cells that nothing can turn any more. -/
structure Pl where
  pos : Nat → Option Place
  fz : Nat → Nat → Option Value
instance : CoeFun Pl fun _ => Nat → Option Place := ⟨Pl.pos⟩
def Pl.bare (pl : Pl) : Pl := ⟨fun _ => none, pl.fz⟩
def Pl.none : Pl := ⟨fun _ => Option.none, fun _ _ => Option.none⟩
/-- A block's owner: an object that stands alone, or a family. -/
abbrev Ow := Nat → Option (Nat × Bool)

mutual
def VR (pl : Pl) (a : AV) (v : Value) : Prop :=
  match a with
  | .top => True
  | .bool b => v = .bool b
  | .int k n => v = .int k n
  | .str s => v = .string s
  | .ptr none => v = .pointer none
  | .ptr (some (o, off)) => ∃ p, pl o = some p ∧ v = .pointer (some ⟨p.block, p.start + off, none⟩)
  | .slice .nil => v = .slice none 0 0
  | .slice (.mk o off len cap es) => ∃ p c a, pl o = some p ∧ v = .slice (some a) len c ∧ len ≤ cap ∧ cap ≤ c ∧ (p.exact = true → c = cap) ∧
      p.start + off + c * es ≤ p.stop ∧ (c = 0 ∨ a = ⟨p.block, p.start + off, none⟩)
  | .fn f first cap => ∃ fs cs, v = .func (.func f) fs cs ∧ VRs pl first fs.toList ∧ VRs pl cap cs.toList
  | .yield l => ∃ p, pl l = some p ∧ v = .func (.yield p.block) #[] #[]
  | .nilFn => v = .nilFunc
  | .iface t a => ∃ u, v = .iface t u ∧ VR pl a u
  | .nilIface => v = .nilIface
  | .agg as => ∃ us, v = .agg us ∧ VRs pl as us.toList ∧ us.toList.all oneV = true
  | .tuple as => ∃ us, v = .tuple us ∧ VRs pl as us.toList
  | .mp none => v = .map none
  | .mp (some _) => False
  | .frz c len cap es => ∃ us b i, VRs pl.bare c us ∧ us.all oneV = true ∧ c.length = len * es ∧ (∀ j u, us[j]? = some u → pl.fz b (i + j) = some u) ∧
      ((v = .slice none 0 0 ∧ len = 0 ∧ ∀ k, cap = some k → k = 0) ∨ ∃ a cp, v = .slice (some a) len cp ∧ len ≤ cp ∧ (∀ k, cap = some k → cp = k) ∧ (cp = 0 ∨ a = ⟨b, i, none⟩))
  | .fptr c off => ∃ us b i, VRs pl.bare c us ∧ us.all oneV = true ∧ (∀ j u, us[j]? = some u → pl.fz b (i + j) = some u) ∧ v = .pointer (some ⟨b, i + off, none⟩)
def VRs (pl : Pl) (as : List AV) (vs : List Value) : Prop :=
  match as with
  | [] => vs = []
  | a :: as => ∃ u us, vs = u :: us ∧ VR pl a u ∧ VRs pl as us
end

structure Pl.le (pl pl' : Pl) : Prop where
  pos : ∀ o p, pl o = some p → pl' o = some p
  fz : ∀ b i u, pl.fz b i = some u → pl'.fz b i = some u
theorem Pl.le.bare {pl pl' : Pl} (h : pl.le pl') : pl.bare.le pl'.bare := ⟨fun _ _ e => e, h.fz⟩
theorem Pl.le.refl (pl : Pl) : pl.le pl := ⟨fun _ _ e => e, fun _ _ _ e => e⟩
theorem Pl.le.trans {a b c : Pl} (h : a.le b) (k : b.le c) : a.le c := ⟨fun _ _ e => k.pos _ _ (h.pos _ _ e), fun _ _ _ e => k.fz _ _ _ (h.fz _ _ _ e)⟩

mutual
theorem VR.mono {pl pl' : Pl} (h : pl.le pl') (a : AV) (v : Value) (hr : VR pl a v) : VR pl' a v := by
  match a with
  | .top => exact trivial
  | .bool b => simpa only [VR] using hr
  | .int k n => simpa only [VR] using hr
  | .str s => simpa only [VR] using hr
  | .ptr none => simpa only [VR] using hr
  | .ptr (some (o, off)) =>
    simp only [VR] at hr ⊢
    obtain ⟨p, hp, e⟩ := hr
    exact ⟨p, h.pos _ _ hp, e⟩
  | .slice .nil => simpa only [VR] using hr
  | .slice (.mk o off len cap es) =>
    simp only [VR] at hr ⊢
    obtain ⟨p, c, a, hp, r⟩ := hr
    exact ⟨p, c, a, h.pos _ _ hp, r⟩
  | .fn f first cap =>
    simp only [VR] at hr ⊢
    obtain ⟨fs, cs, e, h1, h2⟩ := hr
    exact ⟨fs, cs, e, VRs.mono h _ _ h1, VRs.mono h _ _ h2⟩
  | .yield l =>
    simp only [VR] at hr ⊢
    obtain ⟨p, hp, e⟩ := hr
    exact ⟨p, h.pos _ _ hp, e⟩
  | .nilFn => simpa only [VR] using hr
  | .iface t a =>
    simp only [VR] at hr ⊢
    obtain ⟨u, e, h1⟩ := hr
    exact ⟨u, e, VR.mono h _ _ h1⟩
  | .nilIface => simpa only [VR] using hr
  | .agg as =>
    simp only [VR] at hr ⊢
    obtain ⟨us, e, h1, h2⟩ := hr
    exact ⟨us, e, VRs.mono h _ _ h1, h2⟩
  | .tuple as =>
    simp only [VR] at hr ⊢
    obtain ⟨us, e, h1⟩ := hr
    exact ⟨us, e, VRs.mono h _ _ h1⟩
  | .mp none => simpa only [VR] using hr
  | .mp (some _) => simp only [VR] at hr
  | .frz c len cap es =>
    simp only [VR] at hr ⊢
    obtain ⟨us, b, i, h1, h2, h3, h4, h5⟩ := hr
    exact ⟨us, b, i, VRs.mono h.bare _ _ h1, h2, h3, fun j u e => h.fz _ _ _ (h4 j u e), h5⟩
  | .fptr c off =>
    simp only [VR] at hr ⊢
    obtain ⟨us, b, i, h1, h2, h4, h5⟩ := hr
    exact ⟨us, b, i, VRs.mono h.bare _ _ h1, h2, fun j u e => h.fz _ _ _ (h4 j u e), h5⟩
theorem VRs.mono {pl pl' : Pl} (h : pl.le pl') (as : List AV) (vs : List Value) (hr : VRs pl as vs) : VRs pl' as vs := by
  match as with
  | [] => simpa only [VRs] using hr
  | a :: as =>
    simp only [VRs] at hr ⊢
    obtain ⟨u, us, e, h1, h2⟩ := hr
    exact ⟨u, us, e, VR.mono h _ _ h1, VRs.mono h _ _ h2⟩
end

theorem VRs.length {pl : Pl} : ∀ {as : List AV} {vs : List Value}, VRs pl as vs → as.length = vs.length := by
  intro as
  induction as with
  | nil => intro vs h; simp only [VRs] at h; subst h; rfl
  | cons a as ih =>
    intro vs h
    simp only [VRs] at h
    obtain ⟨u, us, rfl, _, h2⟩ := h
    simp [ih h2]

theorem VRs.get {pl : Pl} : ∀ {as : List AV} {vs : List Value}, VRs pl as vs → ∀ (i : Nat) (a : AV), as[i]? = some a → ∃ v, vs[i]? = some v ∧ VR pl a v := by
  intro as
  induction as with
  | nil => intro vs h i a e; simp at e
  | cons b as ih =>
    intro vs h i a e
    simp only [VRs] at h
    obtain ⟨u, us, rfl, h1, h2⟩ := h
    cases i with
    | zero => simp at e; subst e; exact ⟨u, rfl, h1⟩
    | succ i => simp at e; obtain ⟨v, hv, r⟩ := ih h2 i a e; exact ⟨v, by simpa using hv, r⟩

theorem VRs.of_get {pl : Pl} : ∀ {as : List AV} {vs : List Value}, as.length = vs.length → (∀ (i : Nat) (a : AV) (v : Value), as[i]? = some a → vs[i]? = some v → VR pl a v) → VRs pl as vs := by
  intro as
  induction as with
  | nil => intro vs hl _; simp only [VRs]; exact List.length_eq_zero_iff.1 hl.symm
  | cons b as ih =>
    intro vs hl h
    cases vs with
    | nil => simp at hl
    | cons u us =>
      simp only [VRs]
      exact ⟨u, us, rfl, h 0 b u rfl rfl, ih (by simpa using hl) fun i a v h1 h2 => h (i + 1) a v (by simpa using h1) (by simpa using h2)⟩

theorem VRs.append {pl : Pl} : ∀ {as bs : List AV} {us vs : List Value}, VRs pl as us → VRs pl bs vs → VRs pl (as ++ bs) (us ++ vs) := by
  intro as
  induction as with
  | nil => intro bs us vs h h'; simp only [VRs] at h; subst h; exact h'
  | cons a as ih =>
    intro bs us vs h h'
    simp only [VRs] at h
    obtain ⟨u, us', rfl, h1, h2⟩ := h
    simp only [List.cons_append, VRs]
    exact ⟨u, _, rfl, h1, ih h2 h'⟩

theorem VRs.drop {pl : Pl} {as : List AV} {vs : List Value} (h : VRs pl as vs) (n : Nat) : VRs pl (as.drop n) (vs.drop n) := by
  refine .of_get (by simp [h.length]) fun i a v h1 h2 => ?_
  rw [List.getElem?_drop] at h1 h2
  obtain ⟨u, hu, r⟩ := h.get _ _ h1
  rw [hu] at h2; cases h2; exact r
theorem VRs.take {pl : Pl} {as : List AV} {vs : List Value} (h : VRs pl as vs) (n : Nat) : VRs pl (as.take n) (vs.take n) := by
  refine .of_get (by simp [h.length]) fun i a v h1 h2 => ?_
  rw [List.getElem?_take] at h1 h2
  split at h1
  · rename_i hi; rw [if_pos hi] at h2
    obtain ⟨u, hu, r⟩ := h.get _ _ h1
    rw [hu] at h2; cases h2; exact r
  · cases h1

/-! A constant stands for itself. -/
mutual
theorem VR.ofValue (pl : Pl) (v : Value) : VR pl (ofValue v) v := by
  match v with
  | .bool b => simp only [Am.ofValue, VR]
  | .int k n => simp only [Am.ofValue, VR]
  | .string s => simp only [Am.ofValue, VR]
  | .pointer none => simp only [Am.ofValue, VR]
  | .pointer (some a) => simp only [Am.ofValue, VR]
  | .slice none 0 0 => simp only [Am.ofValue, VR]
  | .slice none 0 (n + 1) => simp only [Am.ofValue, VR]
  | .slice none (n + 1) _ => simp only [Am.ofValue, VR]
  | .slice (some a) _ _ => simp only [Am.ofValue, VR]
  | .nilFunc => simp only [Am.ofValue, VR]
  | .nilIface => simp only [Am.ofValue, VR]
  | .map none => simp only [Am.ofValue, VR]
  | .map (some _) => simp only [Am.ofValue, VR]
  | .agg ⟨cs⟩ =>
    simp only [Am.ofValue]
    cases e : cs.all oneV with
    | false => simp only [cond_false, VR]
    | true => simp only [cond_true, VR]; exact ⟨_, rfl, VRs.ofValues pl cs, e⟩
  | .tuple ⟨cs⟩ => simp only [Am.ofValue, VR]; exact ⟨_, rfl, VRs.ofValues pl cs⟩
  | .float _ _ => simp only [Am.ofValue, VR]
  | .complex _ _ _ => simp only [Am.ofValue, VR]
  | .chan _ => simp only [Am.ofValue, VR]
  | .func _ _ _ => simp only [Am.ofValue, VR]
  | .iface _ _ => simp only [Am.ofValue, VR]
theorem VRs.ofValues (pl : Pl) (vs : List Value) : VRs pl (ofValues vs) vs := by
  match vs with
  | [] => simp only [Am.ofValues, VRs]
  | v :: vs => simp only [Am.ofValues, VRs]; exact ⟨v, vs, rfl, VR.ofValue pl v, VRs.ofValues pl vs⟩
end

/-! ### memory -/

def famOk (ow : Ow) (o : Nat) (p : Place) (fam : Option (Nat × Nat)) : Prop :=
  match fam with
  | none => ow p.block = some (o, true) ∧ p.exact = true
  | some (f, _) => ow p.block = some (f, false) ∧ f ≤ o ∧ p.exact = false

structure ObjR (w : World) (pl : Pl) (ow : Ow) (o : Nat) (c : List AV) (fam : Option (Nat × Nat)) (ro : Bool) (p : Place) (arr : Array Value) (elem : TypeId) (fz : Nat × Nat) : Prop where
  place : pl o = some p
  heap : w.heap[p.block]? = some (.cells arr elem fz)
  stop : p.stop ≤ arr.size
  len : p.start + c.length ≤ p.stop
  cell : ∀ (j : Nat) (v : AV), c[j]? = some v → ∃ u, arr[p.start + j]? = some u ∧ VR pl v u ∧ oneV u = true
  own : if ro = true then ow p.block = none ∧ p.exact = true ∧ fam = none else fz = (0, 0) ∧ famOk ow o p fam

def ObjOk (w : World) (pl : Pl) (ow : Ow) (o : Nat) (c : List AV) (fam : Option (Nat × Nat)) (ro : Bool) : Prop :=
  ∃ p arr elem fz, ObjR w pl ow o c fam ro p arr elem fz

/-- The temporaries of a frame. -/
structure TmR (n : Nat) (pl : Pl) (t : Tm) (T : Array Value) : Prop where
  size : T.size = n
  get : ∀ i, VR pl (t.at i) (T.getD i undef)
  out : ∀ i, n ≤ i → t.at i = .top

theorem TmR.mono {n : Nat} {pl pl' : Pl} (h : pl.le pl') {t : Tm} {T : Array Value} (r : TmR n pl t T) : TmR n pl' t T :=
  ⟨r.size, fun i => VR.mono h _ _ (r.get i), r.out⟩

def exCode : Ex → Code
  | .normal => .skip
  | .ret => .ret
  | .exit id => .exit id

/-- What must be so of a piece of code that is run in a frame of `n` temporaries (settled once for a program). -/
def dstOk (n : Nat) : Code → Bool
  | .region _ ops _ => ops.toList.all fun o => match o.dst with | none => true | some d => Nat.blt d n
  | .seq a b => dstOk n a && dstOk n b
  | .cond _ a b => dstOk n a && dstOk n b
  | .block _ b => dstOk n b
  | .loop b => dstOk n b
  | .scope b => dstOk n b
  | .rangeFunc _ ps a b => (ps.toList.all fun d => Nat.blt d n) && dstOk n a && dstOk n b
  | _ => true

structure CodeOk (P : Program) (an : An) (fid : FuncId) (n : Nat) (c : Code) : Prop where
  draw : drawRight an fid c = true
  dst : dstOk n c = true
  fn : (P.funcs.toList[fid]?).map (·.ntmps) = some n

structure LoopR (P : Program) (an : An) (w : World) (pl : Pl) (ow : Ow) (l : Nat) (r : Rec) (p : Place) (L : Loop) : Prop where
  place : pl l = some p
  heap : w.heap[p.block]? = some (.loop L)
  own : ow p.block = some (l, true)
  fn : L.fn = r.fn
  params : L.params.toList = r.params
  assign : L.assign = r.assign
  body : L.body = r.body
  tmps : ∃ n, TmR n pl r.tmps L.tmps ∧ CodeOk P an r.fn n r.assign ∧ CodeOk P an r.fn n r.body ∧ (r.params.all fun d => Nat.blt d n) = true
  state : L.state = (if r.busy then .busy else if r.done then .done else .ready)
  pend : L.pending = r.pend.map exCode
  shape : r.pend ≠ some .normal ∧ (r.pend.isSome → r.done = true)

/-- A variable's cell that holds a growing slice, whose cells are its own. -/
structure GrowR (w : World) (pl : Pl) (ow : Ow) (x : Nat) (c : List AV) (len es : Nat) (p : Place) (arr : Array Value) (elem : TypeId) (b i cp stop : Nat) (arr2 : Array Value) (elem2 : TypeId) : Prop where
  place : pl x = some p
  heap : w.heap[p.block]? = some (.cells arr elem (0, 0))
  hstop : p.stop ≤ arr.size
  hlen : p.start + 1 ≤ p.stop
  exact : p.exact = true
  own : ow p.block = some (x, true)
  cell : arr[p.start]? = some (.slice (some ⟨b, i, none⟩) len cp)
  hcap : len ≤ cp
  room : i + cp * es ≤ stop
  hstop2 : stop ≤ arr2.size
  heap2 : w.heap[b]? = some (.cells arr2 elem2 (0, 0))
  own2 : ow b = some (x, false)
  size : c.length = len * es
  cells : ∀ (j : Nat) (v : AV), c[j]? = some v → ∃ u, arr2[i + j]? = some u ∧ VR pl v u ∧ oneV u = true
def GrowOk (w : World) (pl : Pl) (ow : Ow) (x : Nat) (c : List AV) (len es : Nat) : Prop :=
  ∃ p arr elem b i cp stop arr2 elem2, GrowR w pl ow x c len es p arr elem b i cp stop arr2 elem2
theorem GrowOk.keep {w w' : World} {pl pl' : Pl} {ow ow' : Ow} {x : Nat} {c : List AV} {len es : Nat} (h : GrowOk w pl ow x c len es) (hp : pl.le pl')
    (hb : ∀ b, (ow b = some (x, true) ∨ ow b = some (x, false)) → w'.heap[b]? = w.heap[b]? ∧ ow' b = ow b) : GrowOk w' pl' ow' x c len es := by
  obtain ⟨p, arr, elem, b, i, cp, stop, arr2, elem2, r⟩ := h
  obtain ⟨a1, a2⟩ := hb _ (.inl r.own)
  obtain ⟨a3, a4⟩ := hb _ (.inr r.own2)
  exact ⟨p, arr, elem, b, i, cp, stop, arr2, elem2, hp.pos _ _ r.place, by rw [a1]; exact r.heap, r.hstop, r.hlen, r.exact, by rw [a2]; exact r.own, r.cell, r.hcap, r.room, r.hstop2, by rw [a3]; exact r.heap2, by rw [a4]; exact r.own2, r.size,
    fun j v hj => let ⟨u, h1, h2, h3⟩ := r.cells j v hj; ⟨u, h1, VR.mono hp _ _ h2, h3⟩⟩
def Grows (H : Heap) (w : World) (pl : Pl) (ow : Ow) : Prop :=
  ∀ x c len es, H.get x = some (.grow c len es) → GrowOk w pl ow x c len es ∧ ∀ o c' a ro, H.get o ≠ some (.cells c' (some (x, a)) ro)
def LoopOk (P : Program) (an : An) (w : World) (pl : Pl) (ow : Ow) (l : Nat) (r : Rec) : Prop := ∃ p L, LoopR P an w pl ow l r p L

structure Rel (P : Program) (an : An) (H : Heap) (w : World) (pl : Pl) (ow : Ow) : Prop where
  obj : ∀ o c fam ro, H.get o = some (.cells c fam ro) → ObjOk w pl ow o c fam ro
  align : ∀ o c f a o' c' f' a' p p', H.get o = some (.cells c (some (f, a)) false) → H.get o' = some (.cells c' (some (f', a')) false) →
    pl o = some p → pl o' = some p' → p.block = p'.block → p.start + a' = p'.start + a
  loop : ∀ l r, H.get l = some (.loop r) → LoopOk P an w pl ow l r
  fresh : ∀ o, H.next ≤ o → pl o = none
  rooms : ∀ b x, ow b = some x → b < w.heap.size
  places : ∀ o p, pl o = some p → p.block < w.heap.size
  froz : ∀ b i u, pl.fz b i = some u → ow b = none ∧ ∃ arr elem z, w.heap[b]? = some (.cells arr elem z) ∧ arr[i]? = some u
  grow : Grows H w pl ow
  low : ∀ b x, ow b = some x → x.1 < H.next

structure Ext (H : Heap) (w : World) (pl : Pl) (ow : Ow) (H' : Heap) (w' : World) (pl' : Pl) (ow' : Ow) : Prop where
  next : H.next ≤ H'.next
  size : w.heap.size ≤ w'.heap.size
  pls : pl.le pl'
  ows : ∀ b, b < w.heap.size → ow' b = ow b
  out : ∀ b, b < w.heap.size → ow b = none → w'.heap[b]? = w.heap[b]?
  new : ∀ o p, pl' o = some p → pl o = none → H.next ≤ o ∧ p.block < w'.heap.size ∧ ow' p.block ≠ none
  still : w'.os = w.os ∧ w'.tape = w.tape ∧ w'.output = w.output
  fzn : ∀ b i u, pl'.fz b i = some u → pl.fz b i = some u ∨ w.heap.size ≤ b

/-- What nothing could turn stays so where the unowned blocks stay as they are. -/
theorem Froz.keep {w w' : World} {pl pl' : Pl} {ow ow' : Ow} (h : ∀ b i u, pl.fz b i = some u → ow b = none ∧ ∃ arr elem z, w.heap[b]? = some (.cells arr elem z) ∧ arr[i]? = some u) (hf : pl'.fz = pl.fz)
    (hb : ∀ b, b < w.heap.size → ow b = none → w'.heap[b]? = w.heap[b]? ∧ ow' b = none) :
    ∀ b i u, pl'.fz b i = some u → ow' b = none ∧ ∃ arr elem z, w'.heap[b]? = some (.cells arr elem z) ∧ arr[i]? = some u := by
  intro b i u e
  rw [hf] at e
  obtain ⟨h1, arr, elem, z, h2, h3⟩ := h b i u e
  have hl : b < w.heap.size := by
    rcases Nat.lt_or_ge b w.heap.size with x | x
    · exact x
    · rw [Array.getElem?_eq_none x] at h2; cases h2
  obtain ⟨g1, g2⟩ := hb b hl h1
  exact ⟨g2, arr, elem, z, by rw [g1]; exact h2, h3⟩

theorem noNew {pl : Pl} {m n : Nat} {ow' : Ow} : ∀ o p, pl o = some p → pl o = none → n ≤ o ∧ p.block < m ∧ ow' p.block ≠ none := by
  intro o p h1 h2
  rw [h1] at h2; cases h2
theorem Ext.refl (H : Heap) (w : World) (pl : Pl) (ow : Ow) : Ext H w pl ow H w pl ow := ⟨Nat.le_refl _, Nat.le_refl _, .refl _, fun _ _ => rfl, fun _ _ _ => rfl, noNew, ⟨rfl, rfl, rfl⟩, fun _ _ _ e => .inl e⟩
theorem Ext.trans {H H1 H2 : Heap} {w w1 w2 : World} {pl pl1 pl2 : Pl} {ow ow1 ow2 : Ow} (a : Ext H w pl ow H1 w1 pl1 ow1) (b : Ext H1 w1 pl1 ow1 H2 w2 pl2 ow2) :
    Ext H w pl ow H2 w2 pl2 ow2 :=
  ⟨Nat.le_trans a.next b.next, Nat.le_trans a.size b.size, a.pls.trans b.pls, fun x h => by rw [b.ows x (Nat.lt_of_lt_of_le h a.size), a.ows x h],
   fun x h h2 => by rw [b.out x (Nat.lt_of_lt_of_le h a.size) (by rw [a.ows x h, h2]), a.out x h h2],
   fun o p h h2 => by
     cases e : pl1 o with
     | none => exact ⟨Nat.le_trans a.next (b.new o p h e).1, (b.new o p h e).2⟩
     | some q =>
       have := b.pls.pos _ _ e; rw [h] at this; cases this
       have hn' := a.new o p e h2
       have hn := hn'.2
       exact ⟨hn'.1, Nat.lt_of_lt_of_le hn.1 b.size, by rw [b.ows _ hn.1]; exact hn.2⟩,
   ⟨b.still.1.trans a.still.1, b.still.2.1.trans a.still.2.1, b.still.2.2.trans a.still.2.2⟩,
   fun x i u e => by
     rcases b.fzn x i u e with h | h
     · exact a.fzn x i u h
     · exact .inr (Nat.le_trans a.size h)⟩

/-- Growing cells stay. -/
theorem Grows.keep {H H' : Heap} {w w' : World} {pl pl' : Pl} {ow ow' : Ow} (h : Grows H w pl ow) (hp : pl.le pl')
    (hg : ∀ x c len es, H'.get x = some (.grow c len es) → H.get x = some (.grow c len es))
    (hl : ∀ o c f a ro, H'.get o = some (.cells c (some (f, a)) ro) → (∃ o' c' a' ro', H.get o' = some (.cells c' (some (f, a')) ro')) ∨ ∀ c len es, H.get f ≠ some (.grow c len es))
    (hb : ∀ x c len es, H.get x = some (.grow c len es) → ∀ b, (ow b = some (x, true) ∨ ow b = some (x, false)) → w'.heap[b]? = w.heap[b]? ∧ ow' b = ow b) : Grows H' w' pl' ow' := by
  intro x c len es g
  have g' := hg x c len es g
  obtain ⟨h1, h2⟩ := h x c len es g'
  refine ⟨h1.keep hp (hb x c len es g'), fun o c' a ro g2 => ?_⟩
  rcases hl _ _ _ _ _ g2 with ⟨o', c'', a', ro', g3⟩ | g3
  · exact h2 _ _ _ _ g3
  · exact g3 _ _ _ g'

/-- The world has only drawn. -/
theorem Rel.drawn {P : Program} {an : An} {H : Heap} {w : World} {pl : Pl} {ow : Ow} (h : Rel P an H w pl ow) {w' : World} (e : w'.heap = w.heap) : Rel P an H w' pl ow :=
  ⟨fun o c fam ro g => by
     obtain ⟨p, arr, elem, fz, r⟩ := h.obj o c fam ro g
     exact ⟨p, arr, elem, fz, r.place, by rw [e]; exact r.heap, r.stop, r.len, r.cell, r.own⟩,
   h.align,
   fun l r g => by
     obtain ⟨p, L, q⟩ := h.loop l r g
     exact ⟨p, L, q.place, by rw [e]; exact q.heap, q.own, q.fn, q.params, q.assign, q.body, q.tmps, q.state, q.pend, q.shape⟩,
   h.fresh, fun b x g => by rw [e]; exact h.rooms b x g, fun o p g => by rw [e]; exact h.places o p g, Froz.keep h.froz rfl fun b _ hb => ⟨by rw [e], hb⟩,
   h.grow.keep (.refl _) (fun _ _ _ _ g => g) (fun _ _ _ _ _ g => .inl ⟨_, _, _, _, g⟩) fun _ _ _ _ _ _ _ => ⟨by rw [e], rfl⟩, h.low⟩
theorem Ext.drawn {H : Heap} {w : World} {pl : Pl} {ow : Ow} {w' : World} (e : w'.heap = w.heap) (hs : w'.os = w.os ∧ w'.tape = w.tape ∧ w'.output = w.output) : Ext H w pl ow H w' pl ow :=
  ⟨Nat.le_refl _, by rw [e]; exact Nat.le_refl _, .refl _, fun _ _ => rfl, fun _ _ _ => by rw [e], noNew, hs, fun _ _ _ e => .inl e⟩

def upd {β : Type} (f : Nat → Option β) (i : Nat) (x : β) : Nat → Option β := fun j => if j = i then some x else f j

theorem upd_self {β : Type} (f : Nat → Option β) (i : Nat) (x : β) : upd f i x i = some x := by simp [upd]
theorem low_upd {ow : Ow} {n : Nat} (h : ∀ b x, ow b = some x → x.1 < n) (b0 : Nat) {y : Nat × Bool} (hy : y.1 ≤ n) : ∀ b x, upd ow b0 y b = some x → x.1 < n + 1 := by
  intro b x e
  simp only [upd] at e
  split at e
  · cases e; omega
  · have := h b x e; omega
theorem upd_ne {β : Type} (f : Nat → Option β) {i j : Nat} (x : β) (h : j ≠ i) : upd f i x j = f j := by simp [upd, h]

def Pl.put (pl : Pl) (i : Nat) (x : Place) : Pl := ⟨upd pl.pos i x, pl.fz⟩
theorem put_self (pl : Pl) (i : Nat) (x : Place) : pl.put i x i = some x := upd_self _ _ _
theorem put_ne (pl : Pl) {i j : Nat} (x : Place) (h : j ≠ i) : pl.put i x j = pl j := upd_ne _ _ h
theorem put_le {pl : Pl} {i : Nat} (x : Place) (h : pl i = Option.none) : pl.le (pl.put i x) := ⟨fun o p e => by
  have : o ≠ i := fun y => by rw [y, h] at e; cases e
  rw [put_ne _ _ this]; exact e, fun _ _ _ e => e⟩

theorem places_upd {pl : Pl} {m m' : Nat} (h : ∀ o p, pl o = some p → p.block < m) {i : Nat} {q : Place} (hq : q.block < m') (hm : m ≤ m') : ∀ o p, pl.put i q o = some p → p.block < m' := by
  intro o p e
  simp only [Pl.put, upd] at e
  split at e
  · cases e; exact hq
  · exact Nat.lt_of_lt_of_le (h o p e) hm
theorem new_upd {pl : Pl} {ow' : Ow} {m' : Nat} {i : Nat} {q : Place} (hq : q.block < m') (ho : ow' q.block ≠ none) : ∀ o p, pl.put i q o = some p → pl o = none → i ≤ o ∧ p.block < m' ∧ ow' p.block ≠ none := by
  intro o p e h2
  simp only [Pl.put, upd] at e
  split at e
  · rename_i e1; cases e; exact ⟨Nat.le_of_eq e1.symm, hq, ho⟩
  · rw [e] at h2; cases h2

theorem get_push_lt {α : Type} (a : Array α) (x : α) {b : Nat} (h : b < a.size) : (a.push x)[b]? = a[b]? := by
  rw [Array.getElem?_push, if_neg (by omega)]

section push
variable {P : Program} {an : An} {H : Heap} {w : World} {pl : Pl} {ow : Ow}

theorem ObjOk.lt {o : Nat} {c : List AV} {fam : Option (Nat × Nat)} {ro : Bool} {p : Place} {arr : Array Value} {elem : TypeId} {fz : Nat × Nat}
    (r : ObjR w pl ow o c fam ro p arr elem fz) : p.block < w.heap.size := by
  have := r.heap
  rcases Nat.lt_or_ge p.block w.heap.size with h | h
  · exact h
  · rw [Array.getElem?_eq_none h] at this; cases this

theorem LoopR.lt {l : Nat} {r : Rec} {p : Place} {L : Loop} (q : LoopR P an w pl ow l r p L) : p.block < w.heap.size := by
  have := q.heap
  rcases Nat.lt_or_ge p.block w.heap.size with h | h
  · exact h
  · rw [Array.getElem?_eq_none h] at this; cases this

/-- What is old stays, over a world with blocks behind and more objects placed. -/
theorem ObjR.keep {o : Nat} {c : List AV} {fam : Option (Nat × Nat)} {ro : Bool} {p : Place} {arr : Array Value} {elem : TypeId} {fz : Nat × Nat}
    {w' : World} {pl' : Pl} {ow' : Ow} (r : ObjR w pl ow o c fam ro p arr elem fz) (hp : pl.le pl') (hw : w'.heap[p.block]? = w.heap[p.block]?) (ho : ow' p.block = ow p.block) :
    ObjR w' pl' ow' o c fam ro p arr elem fz :=
  ⟨hp.pos _ _ r.place, by rw [hw]; exact r.heap, r.stop, r.len, fun j v h => let ⟨u, h1, h2, h3⟩ := r.cell j v h; ⟨u, h1, VR.mono hp _ _ h2, h3⟩, by
    have := r.own
    cases ro with
    | true => simpa [ho] using this
    | false => cases fam with
      | none => simpa [famOk, ho] using this
      | some q => simpa [famOk, ho] using this⟩

theorem LoopR.keep {l : Nat} {r : Rec} {p : Place} {L : Loop} {w' : World} {pl' : Pl} {ow' : Ow} (q : LoopR P an w pl ow l r p L) (hp : pl.le pl')
    (hw : w'.heap[p.block]? = w.heap[p.block]?) (ho : ow' p.block = ow p.block) : LoopR P an w' pl' ow' l r p L :=
  ⟨hp.pos _ _ q.place, by rw [hw]; exact q.heap, by rw [ho]; exact q.own, q.fn, q.params, q.assign, q.body,
   let ⟨n, h1, h2⟩ := q.tmps; ⟨n, h1.mono hp, h2⟩, q.state, q.pend, q.shape⟩

/-- One more object, none of the growing. -/
theorem Rel.grow_push (h : Rel P an H w pl ow) {X : Obj} {w' : World} {pl' : Pl} {ow' : Ow} (hX : ∀ c len es, X ≠ .grow c len es)
    (hf : ∀ c f a ro, X = .cells c (some (f, a)) ro → (∃ o' c' a' ro', H.get o' = some (.cells c' (some (f, a')) ro')) ∨ ∀ c len es, H.get f ≠ some (.grow c len es)) (hp : pl.le pl')
    (hb : ∀ x c len es, H.get x = some (.grow c len es) → ∀ b, (ow b = some (x, true) ∨ ow b = some (x, false)) → w'.heap[b]? = w.heap[b]? ∧ ow' b = ow b) : Grows (H.push X) w' pl' ow' := by
  refine h.grow.keep hp (fun x c len es g => ?_) (fun o c f a ro g => ?_) hb
  · rw [Heap.get_push] at g
    split at g
    · cases g; exact absurd rfl (hX _ _ _)
    · exact g
  · rw [Heap.get_push] at g
    split at g
    · cases g; exact hf _ _ _ _ rfl
    · exact .inl ⟨_, _, _, _, g⟩
/-- A growing cell's blocks are no others'. -/
theorem Rel.grow_far (h : Rel P an H w pl ow) {x : Nat} {c : List AV} {len es : Nat} (g : H.get x = some (.grow c len es)) {o : Nat} {c' : List AV} {fam : Option (Nat × Nat)} (g' : H.get o = some (.cells c' fam false)) {p : Place}
    (hp : pl o = some p) {b : Nat} (hb : ow b = some (x, true) ∨ ow b = some (x, false)) : b ≠ p.block := by
  intro e
  subst e
  obtain ⟨p', arr, elem, fz, r⟩ := h.obj _ _ _ _ g'
  have : p' = p := by have := r.place; rw [hp] at this; cases this; rfl
  subst this
  have own := r.own
  rw [if_neg (by simp)] at own
  have own := own.2
  cases fam with
  | none =>
    rw [own.1] at hb
    have : o = x := by rcases hb with h | h <;> simp at h; exact h
    subst this
    rw [g] at g'; cases g'
  | some q =>
    obtain ⟨f, a⟩ := q
    rw [own.1] at hb
    have : f = x := by rcases hb with h | h <;> simp at h; exact h
    subst this
    exact (h.grow _ _ _ _ g).2 _ _ _ _ g'
theorem Rel.grow_far_loop (h : Rel P an H w pl ow) {x : Nat} {c : List AV} {len es : Nat} (g : H.get x = some (.grow c len es)) {l : Nat} {r : Rec} (g' : H.get l = some (.loop r)) {b b' : Nat} (hb' : ow b' = some (l, true))
    (hb : ow b = some (x, true) ∨ ow b = some (x, false)) : b ≠ b' := by
  intro e
  subst e
  rw [hb'] at hb
  have : l = x := by rcases hb with h | h <;> simp at h; exact h
  subst this
  rw [g] at g'; cases g'

/-- A new block for a new object that stands alone. -/
theorem Rel.push_solo (h : Rel P an H w pl ow) (c : List AV) (arr : Array Value) (elem : TypeId) (hc : VRs pl c arr.toList) (h1 : arr.toList.all oneV = true) :
    let pl' := pl.put H.next ⟨w.heap.size, 0, arr.size, true⟩
    let ow' := upd ow w.heap.size (H.next, true)
    let w' := { w with heap := w.heap.push (.cells arr elem) }
    Rel P an (H.push (.cells c none false)) w' pl' ow' ∧ Ext H w pl ow (H.push (.cells c none false)) w' pl' ow' := by
  intro pl' ow' w'
  have hle : pl.le pl' := put_le _ (h.fresh _ (Nat.le_refl _))
  have hheap : ∀ b, b < w.heap.size → w'.heap[b]? = w.heap[b]? := fun b hb => get_push_lt _ _ hb
  have how : ∀ b, b < w.heap.size → ow' b = ow b := fun b hb => upd_ne _ _ (by omega)
  have hsz : w'.heap.size = w.heap.size + 1 := Array.size_push _
  refine ⟨⟨?_, ?_, ?_, ?_, ?_, places_upd h.places (by simp only; omega) (by omega), Froz.keep h.froz rfl fun b hl hb => ⟨hheap b hl, (how b hl).trans hb⟩, h.grow_push (by simp) (fun _ _ _ _ e => by cases e) hle fun x _ _ _ _ b hb => have hl : b < w.heap.size := hb.elim (h.rooms b _) (h.rooms b _); ⟨hheap b hl, how b hl⟩, low_upd h.low _ (by first | exact hf | exact Nat.le_refl _)⟩, ⟨by simp, by omega, hle, how, fun b hb _ => hheap b hb, new_upd (by simp only; omega) (by simp only; rw [show ow' = upd ow _ _ from rfl, upd_self]; simp), ⟨rfl, rfl, rfl⟩, fun _ _ _ e => .inl e⟩⟩
  · intro o c' fam ro g
    rw [Heap.get_push] at g
    by_cases e : o = H.next
    · rw [if_pos e] at g
      cases g
      have hl := hc.length
      refine ⟨⟨w.heap.size, 0, arr.size, true⟩, arr, elem, (0, 0), ⟨?_, ?_, Nat.le_refl _, ?_, ?_, ?_⟩⟩
      · rw [e]; exact upd_self _ _ _
      · show (w.heap.push _)[w.heap.size]? = _
        simp
      · simp [hl]
      · intro j v hv
        obtain ⟨u, hu, r⟩ := hc.get j v hv
        exact ⟨u, by simpa using hu, VR.mono hle _ _ r, List.all_eq_true.1 h1 u (List.mem_of_getElem? hu)⟩
      · rw [if_neg (by simp)]
        exact ⟨rfl, by rw [e]; exact upd_self _ _ _, rfl⟩
    · rw [if_neg e] at g
      obtain ⟨p, a2, el, fz, r⟩ := h.obj o c' fam ro g
      exact ⟨p, a2, el, fz, r.keep hle (hheap _ (ObjOk.lt r)) (how _ (ObjOk.lt r))⟩
  · intro o c1 f a o' c2 f' a' p p' g1 g2 e1 e2 hb
    rw [Heap.get_push] at g1 g2
    split at g1
    · cases g1
    · split at g2
      · cases g2
      · rename_i n1 n2
        rw [show pl' = pl.put H.next _ from rfl, put_ne _ _ n1] at e1
        rw [show pl' = pl.put H.next _ from rfl, put_ne _ _ n2] at e2
        exact h.align _ _ _ _ _ _ _ _ _ _ g1 g2 e1 e2 hb
  · intro l r g
    rw [Heap.get_push] at g
    split at g
    · cases g
    · obtain ⟨p, L, q⟩ := h.loop l r g
      exact ⟨p, L, q.keep hle (hheap _ q.lt) (how _ q.lt)⟩
  · intro o ho
    rw [Heap.next_push] at ho
    rw [show pl' = pl.put H.next _ from rfl, put_ne _ _ (by omega)]
    exact h.fresh o (by omega)
  · intro b x g
    by_cases e : b = w.heap.size
    · omega
    · rw [show ow' = upd ow _ _ from rfl, upd_ne _ _ e] at g
      have := h.rooms b x g
      omega

/-- A new block for a new object that append made: of a family that is there, or of one that begins with it. -/
theorem Rel.push_fam (h : Rel P an H w pl ow) (c : List AV) (f a : Nat) (hf : f ≤ H.next) (hfg : (∃ o' c' a' ro', H.get o' = some (.cells c' (some (f, a')) ro')) ∨ ∀ c len es, H.get f ≠ some (.grow c len es)) (arr : Array Value) (elem : TypeId) (hl : c.length ≤ arr.size)
    (hc : ∀ (j : Nat) (v : AV), c[j]? = some v → ∃ u, arr[j]? = some u ∧ VR pl v u ∧ oneV u = true) :
    let pl' := pl.put H.next ⟨w.heap.size, 0, arr.size, false⟩
    let ow' := upd ow w.heap.size (f, false)
    let w' := { w with heap := w.heap.push (.cells arr elem) }
    Rel P an (H.push (.cells c (some (f, a)) false)) w' pl' ow' ∧ Ext H w pl ow (H.push (.cells c (some (f, a)) false)) w' pl' ow' := by
  intro pl' ow' w'
  have hle : pl.le pl' := put_le _ (h.fresh _ (Nat.le_refl _))
  have hheap : ∀ b, b < w.heap.size → w'.heap[b]? = w.heap[b]? := fun b hb => get_push_lt _ _ hb
  have how : ∀ b, b < w.heap.size → ow' b = ow b := fun b hb => upd_ne _ _ (by omega)
  have hsz : w'.heap.size = w.heap.size + 1 := Array.size_push _
  refine ⟨⟨?_, ?_, ?_, ?_, ?_, places_upd h.places (by simp only; omega) (by omega), Froz.keep h.froz rfl fun b hl hb => ⟨hheap b hl, (how b hl).trans hb⟩, h.grow_push (by simp) (fun _ _ _ _ e => by cases e; exact hfg) hle fun x _ _ _ _ b hb => have hl : b < w.heap.size := hb.elim (h.rooms b _) (h.rooms b _); ⟨hheap b hl, how b hl⟩, low_upd h.low _ (by first | exact hf | exact Nat.le_refl _)⟩, ⟨by simp, by omega, hle, how, fun b hb _ => hheap b hb, new_upd (by simp only; omega) (by simp only; rw [show ow' = upd ow _ _ from rfl, upd_self]; simp), ⟨rfl, rfl, rfl⟩, fun _ _ _ e => .inl e⟩⟩
  · intro o c' fam ro g
    rw [Heap.get_push] at g
    by_cases e : o = H.next
    · rw [if_pos e] at g
      cases g
      refine ⟨⟨w.heap.size, 0, arr.size, false⟩, arr, elem, (0, 0), ⟨?_, ?_, Nat.le_refl _, ?_, ?_, ?_⟩⟩
      · rw [e]; exact upd_self _ _ _
      · show (w.heap.push _)[w.heap.size]? = _
        simp
      · simpa using hl
      · intro j v hv
        obtain ⟨u, hu, r, r1⟩ := hc j v hv
        exact ⟨u, by simpa using hu, VR.mono hle _ _ r, r1⟩
      · rw [if_neg (by simp)]
        exact ⟨rfl, upd_self _ _ _, by omega, rfl⟩
    · rw [if_neg e] at g
      obtain ⟨p, a2, el, fz, r⟩ := h.obj o c' fam ro g
      exact ⟨p, a2, el, fz, r.keep hle (hheap _ (ObjOk.lt r)) (how _ (ObjOk.lt r))⟩
  · intro o c1 f a o' c2 f' a' p p' g1 g2 e1 e2 hb
    rw [Heap.get_push] at g1 g2
    have old : ∀ o c f a p, o ≠ H.next → H.get o = some (.cells c (some (f, a)) false) → pl' o = some p → p.block < w.heap.size := by
      intro o c f a p n g e
      obtain ⟨p2, _, _, _, r⟩ := h.obj _ _ _ _ g
      have := ObjOk.lt r
      have e2 := r.place
      rw [show pl' = pl.put H.next _ from rfl, put_ne _ _ n] at e
      rw [e] at e2; cases e2; exact this
    split at g1
    · rename_i n1
      cases g1
      split at g2
      · rename_i n2
        cases g2
        rw [n1] at e1; rw [n2] at e2
        rw [e1] at e2; cases e2; omega
      · rename_i n2
        have := old _ _ _ _ _ n2 g2 e2
        rw [n1, show pl' H.next = _ from put_self _ _ _] at e1
        cases e1; simp at hb; omega
    · rename_i n1
      split at g2
      · rename_i n2
        cases g2
        have := old _ _ _ _ _ n1 g1 e1
        rw [n2, show pl' H.next = _ from put_self _ _ _] at e2
        cases e2; simp at hb; omega
      · rename_i n2
        rw [show pl' = pl.put H.next _ from rfl, put_ne _ _ n1] at e1
        rw [show pl' = pl.put H.next _ from rfl, put_ne _ _ n2] at e2
        exact h.align _ _ _ _ _ _ _ _ _ _ g1 g2 e1 e2 hb
  · intro l r g
    rw [Heap.get_push] at g
    split at g
    · cases g
    · obtain ⟨p, L, q⟩ := h.loop l r g
      exact ⟨p, L, q.keep hle (hheap _ q.lt) (how _ q.lt)⟩
  · intro o ho
    rw [Heap.next_push] at ho
    rw [show pl' = pl.put H.next _ from rfl, put_ne _ _ (by omega)]
    exact h.fresh o (by omega)
  · intro b x g
    by_cases e : b = w.heap.size
    · omega
    · rw [show ow' = upd ow _ _ from rfl, upd_ne _ _ e] at g
      have := h.rooms b x g
      omega

/-- Forgetting is always allowed. -/
theorem Rel.kill (h : Rel P an H w pl ow) (f p ex : Nat) : Rel P an (H.kill f p ex) w pl ow := by
  have get : ∀ o x, (H.kill f p ex).get o = some x → x ≠ .dead → H.get o = some x := by
    intro o x g n
    rw [Heap.get_kill] at g
    cases e : H.get o with
    | none => rw [e] at g; cases g
    | some y =>
      rw [e] at g
      simp only [Option.map_some, Option.some.injEq] at g
      cases hh : y.hit o f p ex with
      | true => rw [hh] at g; exact absurd g.symm n
      | false => rw [hh] at g; exact congrArg some g
  exact ⟨fun o c fam ro g => h.obj o c fam ro (get _ _ g (by simp)),
    fun o c f a o' c' f' a' p p' g1 g2 => h.align o c f a o' c' f' a' p p' (get _ _ g1 (by simp)) (get _ _ g2 (by simp)),
    fun l r g => h.loop l r (get _ _ g (by simp)), fun o ho => h.fresh o (by simpa using ho), h.rooms, h.places, h.froz,
    h.grow.keep (.refl _) (fun _ _ _ _ g => get _ _ g (by simp)) (fun _ _ _ _ _ g => .inl ⟨_, _, _, _, get _ _ g (by simp)⟩) (fun _ _ _ _ _ _ _ => ⟨rfl, rfl⟩), h.low⟩

theorem Rel.put_dead (h : Rel P an H w pl ow) (o : Nat) : Rel P an (H.set o .dead) w pl ow := by
  have get : ∀ i x, (H.set o .dead).get i = some x → x ≠ .dead → H.get i = some x := by
    intro i x g n
    by_cases ho : o < H.next
    · rw [Heap.get_set _ _ _ _ ho] at g
      split at g
      · cases g; exact absurd rfl n
      · exact g
    · rw [Heap.get_eq, Heap.next_set] at g
      split at g
      · rename_i hi
        rw [show (H.set o .dead).tri = H.tri.set o .dead from rfl, Tri.get_set, if_neg (by omega)] at g
        rw [Heap.get_eq, if_pos hi]; exact g
      · cases g
  exact ⟨fun o c fam ro g => h.obj o c fam ro (get _ _ g (by simp)),
    fun o c f a o' c' f' a' p p' g1 g2 => h.align o c f a o' c' f' a' p p' (get _ _ g1 (by simp)) (get _ _ g2 (by simp)),
    fun l r g => h.loop l r (get _ _ g (by simp)), fun i hi => h.fresh i (by simpa using hi), h.rooms, h.places, h.froz,
    h.grow.keep (.refl _) (fun _ _ _ _ g => get _ _ g (by simp)) (fun _ _ _ _ _ g => .inl ⟨_, _, _, _, get _ _ g (by simp)⟩) (fun _ _ _ _ _ _ _ => ⟨rfl, rfl⟩), h.low⟩

theorem splice_get {α : Type} (l us : List α) (s k : Nat) (h : s + us.length ≤ l.length) :
    (l.take s ++ us ++ l.drop (s + us.length))[k]? = if s ≤ k ∧ k < s + us.length then us[k - s]? else l[k]? := by
  rw [List.append_assoc, List.getElem?_append]
  have ht : (l.take s).length = s := by simp; omega
  rw [ht]
  by_cases h1 : k < s
  · rw [if_pos h1, if_neg (by omega), List.getElem?_take, if_pos h1]
  · rw [if_neg h1, List.getElem?_append]
    by_cases h2 : k < s + us.length
    · rw [if_pos (by omega), if_pos (by omega)]
    · rw [if_neg (by omega), if_neg (by omega), List.getElem?_drop]
      congr 1; omega

theorem splice_length {α : Type} (l us : List α) (s : Nat) (h : s + us.length ≤ l.length) : (l.take s ++ us ++ l.drop (s + us.length)).length = l.length := by
  simp; omega

/-- The row of a block's cells with others from `s` on. -/
def laid (arr : Array Value) (s : Nat) (us : List Value) : Array Value := (arr.toList.take s ++ us ++ arr.toList.drop (s + us.length)).toArray
theorem laid_size (arr : Array Value) (s : Nat) (us : List Value) (h : s + us.length ≤ arr.size) : (laid arr s us).size = arr.size := by
  simp only [laid, List.size_toArray]; rw [splice_length _ _ _ (by simpa using h)]; simp
theorem laid_get (arr : Array Value) (s : Nat) (us : List Value) (k : Nat) (h : s + us.length ≤ arr.size) :
    (laid arr s us)[k]? = if s ≤ k ∧ k < s + us.length then us[k - s]? else arr[k]? := by
  simp only [laid, List.getElem?_toArray]; rw [splice_get _ _ _ _ (by simpa using h)]; simp

def touch (H : Heap) (fam : Option (Nat × Nat)) (off o : Nat) : Heap :=
  match fam with
  | none => H
  | some (f, a) => H.kill f (a + off) o

/-- What remains behind a kill. -/
theorem get_kill_live {H : Heap} {f p ex o : Nat} {x : Obj} (g : (H.kill f p ex).get o = some x) (n : x ≠ .dead) : H.get o = some x ∧ x.hit o f p ex = false := by
  rw [Heap.get_kill] at g
  cases e : H.get o with
  | none => rw [e] at g; cases g
  | some y =>
    rw [e] at g
    simp only [Option.map_some, Option.some.injEq] at g
    cases hh : y.hit o f p ex with
    | true => rw [hh] at g; exact absurd g.symm n
    | false => rw [hh] at g; cases g; exact ⟨rfl, hh⟩

theorem hit_false {o f p ex : Nat} {c : List AV} {a : Nat} {ro : Bool} (h : (Obj.cells c (some (f, a)) ro).hit o f p ex = false) (h1 : f ≤ o) (h2 : o ≠ ex) : a + c.length ≤ p := by
  simp only [Obj.hit, beqT rfl, Nat.ble_eq_true_of_le h1, beqF h2, Bool.true_and, Bool.not_false] at h
  rcases Nat.lt_or_ge p (a + c.length) with x | x
  · rw [bltT x] at h; cases h
  · exact x

theorem touch_next (H : Heap) (fam : Option (Nat × Nat)) (off o : Nat) : (touch H fam off o).next = H.next := by cases fam <;> rfl

/-- What remains when cells of object `o` from `off` on are written, and it is not `o`: it was there, and none of its cells lies where was written. -/
theorem touch_live (h : Rel P an H w pl ow) {o off : Nat} {c : List AV} {fam : Option (Nat × Nat)} {p : Place} {arr : Array Value} {elem : TypeId} {fz : Nat × Nat}
    (r : ObjR w pl ow o c fam false p arr elem fz) (g : H.get o = some (.cells c fam false))
    {o' : Nat} {x : Obj} (hx : x ≠ .dead) (hne : o' ≠ o) (g' : (touch H fam off o).get o' = some x) :
    H.get o' = some x ∧ ∀ c' fam' ro' p', x = .cells c' fam' ro' → pl o' = some p' → p'.block = p.block → p'.start + c'.length ≤ p.start + off := by
  have own : famOk ow o p fam := by have := r.own; rw [if_neg (by simp)] at this; exact this.2
  have hget : H.get o' = some x := by
    cases fam with
    | none => exact g'
    | some q => exact (get_kill_live g' hx).1
  refine ⟨hget, ?_⟩
  intro c' fam' ro' p' e ep eb
  subst e
  obtain ⟨p2, a2, e2, f2, r2⟩ := h.obj _ _ _ _ hget
  have : p2 = p' := by have := r2.place; rw [ep] at this; cases this; rfl
  subst this
  have own2 := r2.own
  cases ro' with
  | true => rw [if_pos rfl, eb] at own2; cases fam with
    | none => rw [own.1] at own2; exact absurd own2.1 (by simp)
    | some q => obtain ⟨f, a⟩ := q; rw [own.1] at own2; exact absurd own2.1 (by simp)
  | false =>
    rw [if_neg (by simp)] at own2
    have own2 := own2.2
    cases fam with
    | none =>
      cases fam' with
      | none => rw [famOk, eb, own.1] at own2; have := own2.1; simp at this; omega
      | some q => obtain ⟨f', a'⟩ := q; rw [famOk, eb, own.1] at own2; have := own2.1; simp at this
    | some q =>
      obtain ⟨f, a⟩ := q
      cases fam' with
      | none => rw [famOk, eb, own.1] at own2; have := own2.1; simp at this
      | some q' =>
        obtain ⟨f', a'⟩ := q'
        have hf : f' = f := by
          have := own2.1; rw [eb, own.1] at this; simp at this; exact this.symm
        subst hf
        have hk := (get_kill_live g' hx).2
        have := hit_false hk own2.2.1 hne
        have al := h.align _ _ _ _ _ _ _ _ _ _ g hget r.place ep eb.symm
        omega

theorem Rel.write (h : Rel P an H w pl ow) {o off : Nat} {c : List AV} {fam : Option (Nat × Nat)} {vs : List AV} {us : List Value}
    {p : Place} {arr : Array Value} {elem : TypeId} {fz : Nat × Nat} (r : ObjR w pl ow o c fam false p arr elem fz)
    (g : H.get o = some (.cells c fam false)) (hl : off + vs.length ≤ c.length) (hv : VRs pl vs us) (h1 : us.all oneV = true) :
    Rel P an ((touch H fam off o).set o (.cells (splice c off vs) fam false)) (w.setRow p.block (laid arr (p.start + off) us)) pl ow ∧
    Ext H w pl ow ((touch H fam off o).set o (.cells (splice c off vs) fam false)) (w.setRow p.block (laid arr (p.start + off) us)) pl ow := by
  have hlen := hv.length
  have hroom : p.start + off + us.length ≤ arr.size := by have := r.stop; have := r.len; omega
  have ho : o < (touch H fam off o).next := by rw [touch_next]; exact Heap.lt_of_get g
  have own : famOk ow o p fam := by have := r.own; rw [if_neg (by simp)] at this; exact this.2
  have hfz : fz = (0, 0) := by have := r.own; rw [if_neg (by simp)] at this; exact this.1
  have hother : ∀ b, b ≠ p.block → (w.setRow p.block (laid arr (p.start + off) us)).heap[b]? = w.heap[b]? := fun b hb => setRow_other _ _ _ _ hb
  have hsame := setRow_heap w p.block arr (laid arr (p.start + off) us) elem fz r.heap
  have hne : ∀ b, ow b = none → b ≠ p.block := by
    intro b hb e
    subst e
    cases fam with
    | none => rw [own.1] at hb; cases hb
    | some q => obtain ⟨f, a⟩ := q; rw [own.1] at hb; cases hb
  refine ⟨⟨?_, ?_, ?_, ?_, ?_, fun o p e => by rw [setRow_size]; exact h.places o p e, Froz.keep h.froz rfl fun b _ hb => ⟨hother b (hne b hb), hb⟩, h.grow.keep (.refl _) (fun x c' len es gx => ?_) (fun i ci fi ai roi gi => ?_) fun x _ _ _ gx b hb => ⟨hother b (h.grow_far gx g r.place hb), rfl⟩, fun b x g => by rw [Heap.next_set, touch_next]; exact h.low b x g⟩, ⟨by rw [Heap.next_set, touch_next]; exact Nat.le_refl _, by simp, .refl _, fun _ _ => rfl, fun b _ hb => hother b (hne b hb), noNew, ⟨rfl, rfl, rfl⟩, fun _ _ _ e => .inl e⟩⟩
  · intro o' c' fam' ro' g'
    rw [Heap.get_set _ _ _ _ ho] at g'
    by_cases e : o' = o
    · rw [if_pos e] at g'
      cases g'
      subst e
      refine ⟨p, laid arr (p.start + off) us, elem, fz, r.place, hsame, by rw [laid_size _ _ _ hroom]; exact r.stop, ?_, ?_, r.own⟩
      · rw [splice, splice_length _ _ _ hl]; exact r.len
      · intro j v hj
        rw [splice, splice_get _ _ _ _ hl] at hj
        rw [laid_get _ _ _ _ hroom]
        by_cases e2 : off ≤ j ∧ j < off + vs.length
        · rw [if_pos e2] at hj
          rw [if_pos (by omega)]
          obtain ⟨u, hu, hr⟩ := hv.get _ _ hj
          refine ⟨u, ?_, hr, List.all_eq_true.1 h1 u (List.mem_of_getElem? hu)⟩
          rw [show p.start + j - (p.start + off) = j - off by omega]; exact hu
        · rw [if_neg e2] at hj
          rw [if_neg (by omega)]
          exact r.cell j v hj
    · rw [if_neg e] at g'
      obtain ⟨g2, far⟩ := touch_live h r g (by simp) e g'
      obtain ⟨p', arr', elem', fz', r'⟩ := h.obj _ _ _ _ g2
      by_cases eb : p'.block = p.block
      · have := far _ _ _ _ rfl r'.place eb
        have hh := r'.heap; rw [eb, r.heap] at hh; cases hh
        refine ⟨p', laid arr (p.start + off) us, elem, fz, r'.place, by rw [eb]; exact hsame, by rw [laid_size _ _ _ hroom]; exact r'.stop, r'.len, ?_, r'.own⟩
        intro j v hj
        have hjl : j < c'.length := (List.getElem?_eq_some_iff.1 hj).1
        rw [laid_get _ _ _ _ hroom, if_neg (by omega)]
        exact r'.cell j v hj
      · exact ⟨p', arr', elem', fz', r'.keep (.refl _) (hother _ eb) rfl⟩
  · intro o1 c1 f1 a1 o2 c2 f2 a2 p1 p2 g1 g2 e1 e2 hb
    have back : ∀ i ci fi ai, ((touch H fam off o).set o (.cells (splice c off vs) fam false)).get i = some (.cells ci (some (fi, ai)) false) → ∃ ci', H.get i = some (.cells ci' (some (fi, ai)) false) := by
      intro i ci fi ai gi
      rw [Heap.get_set _ _ _ _ ho] at gi
      by_cases e : i = o
      · rw [if_pos e] at gi; cases gi; exact ⟨c, by rw [e]; exact g⟩
      · rw [if_neg e] at gi; exact ⟨ci, (touch_live h r g (by simp) e gi).1⟩
    obtain ⟨c1', g1'⟩ := back _ _ _ _ g1
    obtain ⟨c2', g2'⟩ := back _ _ _ _ g2
    exact h.align _ _ _ _ _ _ _ _ _ _ g1' g2' e1 e2 hb
  · intro l rc gl
    rw [Heap.get_set _ _ _ _ ho] at gl
    by_cases e : l = o
    · rw [if_pos e] at gl; cases gl
    · rw [if_neg e] at gl
      obtain ⟨p', L, q⟩ := h.loop l rc (touch_live h r g (by simp) e gl).1
      have hb : p'.block ≠ p.block := fun x => by have := q.heap; rw [x, r.heap] at this; cases this
      exact ⟨p', L, q.keep (.refl _) (hother _ hb) rfl⟩
  · intro i hi
    rw [Heap.next_set, touch_next] at hi
    exact h.fresh i hi
  · intro b x hb
    simp only [setRow_size]
    exact h.rooms b x hb
  · rw [Heap.get_set _ _ _ _ ho] at gx
    by_cases e : x = o
    · rw [if_pos e] at gx; cases gx
    · rw [if_neg e] at gx; exact (touch_live h r g (by simp) e gx).1
  · rw [Heap.get_set _ _ _ _ ho] at gi
    by_cases e : i = o
    · rw [if_pos e] at gi; cases gi; exact .inl ⟨o, c, ai, false, g⟩
    · rw [if_neg e] at gi; exact .inl ⟨i, ci, ai, roi, (touch_live h r g (by simp) e gi).1⟩

/-- Append in the room behind a member of a family: a new member in the same block. -/
theorem Rel.push_room (h : Rel P an H w pl ow) {o off n : Nat} {c : List AV} {f a : Nat} {vs : List AV} {us : List Value}
    {p : Place} {arr : Array Value} {elem : TypeId} {fz : Nat × Nat} (r : ObjR w pl ow o c (some (f, a)) false p arr elem fz)
    (g : H.get o = some (.cells c (some (f, a)) false)) (hn : off + n ≤ c.length) (hroom : p.start + off + n + vs.length ≤ p.stop) (hv : VRs pl vs us) (h1 : us.all oneV = true) :
    let H' := (H.kill f (a + off + n) H.next).push (.cells ((c.drop off).take n ++ vs) (some (f, a + off)) false)
    let pl' := pl.put H.next ⟨p.block, p.start + off, p.stop, false⟩
    let w' := w.setRow p.block (laid arr (p.start + off + n) us)
    Rel P an H' w' pl' ow ∧ Ext H w pl ow H' w' pl' ow := by
  intro H' pl' w'
  have hlen := hv.length
  have hstop := r.stop
  have hsz : p.start + off + n + us.length ≤ arr.size := by omega
  have own : famOk ow o p (some (f, a)) := by have := r.own; rw [if_neg (by simp)] at this; exact this.2
  have hother : ∀ b, b ≠ p.block → w'.heap[b]? = w.heap[b]? := fun b hb => setRow_other _ _ _ _ hb
  have hsame : w'.heap[p.block]? = some (.cells (laid arr (p.start + off + n) us) elem fz) := setRow_heap w p.block arr _ elem fz r.heap
  have hle : pl.le pl' := put_le _ (h.fresh _ (Nat.le_refl _))
  -- what is there behind: the new one, or one that was there, with no cell where was written
  have back : ∀ i x, H'.get i = some x → x ≠ .dead → (i = H.next ∧ x = .cells ((c.drop off).take n ++ vs) (some (f, a + off)) false) ∨
      (i ≠ H.next ∧ H.get i = some x ∧ ∀ c' fam' ro' p', x = .cells c' fam' ro' → pl i = some p' → p'.block = p.block → p'.start + c'.length ≤ p.start + off + n) := by
    intro i x gi hx
    rw [Heap.get_push, Heap.next_kill] at gi
    by_cases e : i = H.next
    · rw [if_pos e] at gi; cases gi; exact .inl ⟨e, rfl⟩
    · rw [if_neg e] at gi
      obtain ⟨g2, hk⟩ := get_kill_live gi hx
      refine .inr ⟨e, g2, ?_⟩
      intro c' fam' ro' p' ex ep eb
      subst ex
      obtain ⟨p2, a2, e2, f2, r2⟩ := h.obj _ _ _ _ g2
      have : p2 = p' := by have := r2.place; rw [ep] at this; cases this; rfl
      subst this
      have own2 := r2.own
      cases ro' with
      | true => rw [if_pos rfl, eb, own.1] at own2; exact absurd own2.1 (by simp)
      | false =>
        rw [if_neg (by simp)] at own2
        have own2 := own2.2
        cases fam' with
        | none => rw [famOk, eb, own.1] at own2; have := own2.1; simp at this
        | some q' =>
          obtain ⟨f', a'⟩ := q'
          have hf : f' = f := by have := own2.1; rw [eb, own.1] at this; simp at this; exact this.symm
          subst hf
          have := hit_false hk own2.2.1 e
          have al := h.align _ _ _ _ _ _ _ _ _ _ g g2 r.place ep eb.symm
          omega
  have hblk : p.block < w'.heap.size := by show _ < (w.setRow _ _).heap.size; rw [setRow_size]; exact ObjOk.lt r
  have hne : ∀ b, ow b = none → b ≠ p.block := by
    intro b hb e
    subst e
    rw [own.1] at hb; cases hb
  refine ⟨⟨?_, ?_, ?_, ?_, ?_, places_upd h.places hblk (by show w.heap.size ≤ (w.setRow _ _).heap.size; simp), Froz.keep h.froz rfl fun b _ hb => ⟨hother b (hne b hb), hb⟩, h.grow.keep hle (fun x c' len es gx => ?_) (fun i ci fi ai roi gi => ?_) fun x _ _ _ gx b hb => ⟨hother b (h.grow_far gx g r.place hb), rfl⟩, fun b x g => Nat.lt_succ_of_lt (h.low b x g)⟩, ⟨by show H.next ≤ (H.kill _ _ _).next + 1; simp, by show w.heap.size ≤ (w.setRow _ _).heap.size; simp, hle, fun _ _ => rfl, fun b _ hb => hother b (hne b hb), new_upd hblk (by simp only; rw [own.1]; simp), ⟨rfl, rfl, rfl⟩, fun _ _ _ e => .inl e⟩⟩
  · intro o' c' fam' ro' g'
    rcases back _ _ g' (by simp) with ⟨e, ex⟩ | ⟨e, g2, far⟩
    · cases ex
      subst e
      refine ⟨⟨p.block, p.start + off, p.stop, false⟩, _, elem, fz, upd_self _ _ _, hsame, by rw [laid_size _ _ _ hsz]; exact hstop, ?_, ?_, ?_⟩
      · simp; omega
      · intro j v hj
        rw [laid_get _ _ _ _ hsz]
        rw [List.getElem?_append] at hj
        have htl : ((c.drop off).take n).length = n := by simp; omega
        rw [htl] at hj
        by_cases e2 : j < n
        · rw [if_pos e2, List.getElem?_take, if_pos e2, List.getElem?_drop] at hj
          obtain ⟨u, hu, hr, hr1⟩ := r.cell _ _ hj
          refine ⟨u, ?_, VR.mono hle _ _ hr, hr1⟩
          simp only
          rw [if_neg (by omega), ← hu]; congr 1; omega
        · rw [if_neg e2] at hj
          obtain ⟨u, hu, hr⟩ := hv.get _ _ hj
          have : j - n < us.length := (List.getElem?_eq_some_iff.1 hu).1
          refine ⟨u, ?_, VR.mono hle _ _ hr, List.all_eq_true.1 h1 u (List.mem_of_getElem? hu)⟩
          simp only
          rw [if_pos (by omega), ← hu]; congr 1; omega
      · have := r.own
        rw [if_neg (by simp)] at this ⊢
        exact ⟨this.1, own.1, Nat.le_trans own.2.1 (Nat.le_of_lt (Heap.lt_of_get g)), rfl⟩
    · obtain ⟨p', arr', elem', fz', r'⟩ := h.obj _ _ _ _ g2
      by_cases eb : p'.block = p.block
      · have := far _ _ _ _ rfl r'.place eb
        have hh := r'.heap; rw [eb, r.heap] at hh; cases hh
        have r2 : ObjR w pl' ow o' c' fam' ro' p' arr elem fz := r'.keep hle rfl rfl
        refine ⟨p', laid arr (p.start + off + n) us, elem, fz, r2.place, by rw [eb]; exact hsame, by rw [laid_size _ _ _ hsz]; exact r2.stop, r2.len, ?_, r2.own⟩
        intro j v hj
        have hjl : j < c'.length := (List.getElem?_eq_some_iff.1 hj).1
        rw [laid_get _ _ _ _ hsz, if_neg (by omega)]
        exact r2.cell j v hj
      · exact ⟨p', arr', elem', fz', r'.keep hle (hother _ eb) rfl⟩
  · intro o1 c1 f1 a1 o2 c2 f2 a2 p1 p2 g1 g2 e1 e2 hb
    rcases back _ _ g1 (by simp) with ⟨i1, x1⟩ | ⟨i1, y1, _⟩
    · cases x1; subst i1
      rw [show pl' H.next = _ from put_self _ _ _] at e1; cases e1
      rcases back _ _ g2 (by simp) with ⟨i2, x2⟩ | ⟨i2, y2, _⟩
      · cases x2; subst i2
        rw [show pl' H.next = _ from put_self _ _ _] at e2; cases e2; rfl
      · rw [show pl' = pl.put H.next _ from rfl, put_ne _ _ i2] at e2
        have := h.align _ _ _ _ _ _ _ _ _ _ g y2 r.place e2 hb
        simp only; omega
    · rw [show pl' = pl.put H.next _ from rfl, put_ne _ _ i1] at e1
      rcases back _ _ g2 (by simp) with ⟨i2, x2⟩ | ⟨i2, y2, _⟩
      · cases x2; subst i2
        rw [show pl' H.next = _ from put_self _ _ _] at e2; cases e2
        have := h.align _ _ _ _ _ _ _ _ _ _ y1 g e1 r.place hb
        simp only; omega
      · rw [show pl' = pl.put H.next _ from rfl, put_ne _ _ i2] at e2
        exact h.align _ _ _ _ _ _ _ _ _ _ y1 y2 e1 e2 hb
  · intro l rc gl
    rcases back _ _ gl (by simp) with ⟨i1, x1⟩ | ⟨i1, y1, _⟩
    · cases x1
    · obtain ⟨p', L, q⟩ := h.loop l rc y1
      have hb : p'.block ≠ p.block := fun x => by have := q.heap; rw [x, r.heap] at this; cases this
      exact ⟨p', L, q.keep hle (hother _ hb) rfl⟩
  · intro i hi
    have : H'.next = H.next + 1 := rfl
    rw [show pl' = pl.put H.next _ from rfl, put_ne _ _ (by omega)]
    exact h.fresh i (by omega)
  · intro b x hb
    show b < (w.setRow _ _).heap.size
    simp only [setRow_size]
    exact h.rooms b x hb
  · rcases back _ _ gx (by simp) with ⟨_, x1⟩ | ⟨_, y1, _⟩
    · cases x1
    · exact y1
  · rcases back _ _ gi (by simp) with ⟨_, x1⟩ | ⟨_, y1, _⟩
    · cases x1; exact .inl ⟨o, c, a, false, g⟩
    · exact .inl ⟨_, _, _, _, y1⟩

/-- A block that is none of the abstract machine's. -/
theorem Rel.alien (h : Rel P an H w pl ow) (x : Go.Obj) : Rel P an H { w with heap := w.heap.push x } pl ow ∧ Ext H w pl ow H { w with heap := w.heap.push x } pl ow := by
  have hheap : ∀ b, b < w.heap.size → (w.heap.push x)[b]? = w.heap[b]? := fun b hb => get_push_lt _ _ hb
  refine ⟨⟨?_, h.align, ?_, h.fresh, ?_, fun o p e => by have := h.places o p e; simp; omega, Froz.keep h.froz rfl fun b hl hb => ⟨hheap b hl, hb⟩, h.grow.keep (.refl _) (fun _ _ _ _ g => g) (fun _ _ _ _ _ g => .inl ⟨_, _, _, _, g⟩) fun _ _ _ _ _ b hb => ⟨hheap b (by rcases hb with hb | hb <;> exact h.rooms b _ hb), rfl⟩, h.low⟩, ⟨Nat.le_refl _, by simp, .refl _, fun _ _ => rfl, fun b hb _ => hheap b hb, noNew, ⟨rfl, rfl, rfl⟩, fun _ _ _ e => .inl e⟩⟩
  · intro o c fam ro g
    obtain ⟨p, a2, el, fz, r⟩ := h.obj o c fam ro g
    exact ⟨p, a2, el, fz, r.keep (.refl _) (hheap _ (ObjOk.lt r)) rfl⟩
  · intro l r g
    obtain ⟨p, L, q⟩ := h.loop l r g
    exact ⟨p, L, q.keep (.refl _) (hheap _ q.lt) rfl⟩
  · intro b y g
    have := h.rooms b y g
    simp; omega

/-- A block that was none of the abstract machine's becomes a new object's. -/
theorem Rel.absorb (h : Rel P an H w pl ow) (c : List AV) (b : Nat) (arr : Array Value) (elem : TypeId) (hb : w.heap[b]? = some (.cells arr elem (0, 0))) (hob : ow b = none) (hf0 : ∀ i, pl.fz b i = none)
    (hp : ∀ o p, pl o = some p → p.block ≠ b) (hc : VRs pl c arr.toList) (h1 : arr.toList.all oneV = true) :
    Rel P an (H.push (.cells c none false)) w (pl.put H.next ⟨b, 0, arr.size, true⟩) (upd ow b (H.next, true)) := by
  have hle : pl.le (pl.put H.next ⟨b, 0, arr.size, true⟩) := put_le _ (h.fresh _ (Nat.le_refl _))
  have hlt : b < w.heap.size := by
    rcases Nat.lt_or_ge b w.heap.size with h | h
    · exact h
    · rw [Array.getElem?_eq_none h] at hb; cases hb
  refine ⟨?_, ?_, ?_, ?_, ?_, places_upd h.places hlt (Nat.le_refl _), ?_, h.grow_push (by simp) (fun _ _ _ _ e => by cases e) hle fun x _ _ _ _ b' hb' => ⟨rfl, upd_ne _ _ fun e => (by rw [e, hob] at hb'; rcases hb' with hb' | hb' <;> cases hb')⟩, low_upd h.low _ (Nat.le_refl _)⟩
  · intro o c' fam ro g
    rw [Heap.get_push] at g
    by_cases e : o = H.next
    · rw [if_pos e] at g
      cases g
      have hl := hc.length
      refine ⟨⟨b, 0, arr.size, true⟩, arr, elem, (0, 0), ⟨?_, hb, Nat.le_refl _, ?_, ?_, ?_⟩⟩
      · rw [e]; exact upd_self _ _ _
      · simp [hl]
      · intro j v hv
        obtain ⟨u, hu, r⟩ := hc.get j v hv
        exact ⟨u, by simpa using hu, VR.mono hle _ _ r, List.all_eq_true.1 h1 u (List.mem_of_getElem? hu)⟩
      · rw [if_neg (by simp)]
        exact ⟨rfl, by rw [e]; exact upd_self _ _ _, rfl⟩
    · rw [if_neg e] at g
      obtain ⟨p, a2, el, fz, r⟩ := h.obj o c' fam ro g
      exact ⟨p, a2, el, fz, r.keep hle rfl (upd_ne _ _ (hp _ _ r.place))⟩
  · intro o c1 f a o' c2 f' a' p p' g1 g2 e1 e2 hb
    rw [Heap.get_push] at g1 g2
    split at g1
    · cases g1
    · split at g2
      · cases g2
      · rename_i n1 n2
        rw [put_ne _ _ n1] at e1
        rw [put_ne _ _ n2] at e2
        exact h.align _ _ _ _ _ _ _ _ _ _ g1 g2 e1 e2 hb
  · intro l r g
    rw [Heap.get_push] at g
    split at g
    · cases g
    · obtain ⟨p, L, q⟩ := h.loop l r g
      exact ⟨p, L, q.keep hle rfl (upd_ne _ _ (hp _ _ q.place))⟩
  · intro o ho
    rw [Heap.next_push] at ho
    rw [put_ne _ _ (by omega)]
    exact h.fresh o (by omega)
  · intro i x g
    by_cases e : i = b
    · omega
    · rw [upd_ne _ _ e] at g
      exact h.rooms i x g
  · intro x i u e
    have hx : x ≠ b := fun y => by rw [y] at e; have := hf0 i; rw [show (pl.put H.next ⟨b, 0, arr.size, true⟩).fz b i = pl.fz b i from rfl, this] at e; cases e
    obtain ⟨g1, g2⟩ := h.froz x i u e
    exact ⟨by rw [upd_ne _ _ hx]; exact g1, g2⟩

/-- A change of a block that is none of the abstract machine's, nor a row of cells. -/
theorem Rel.alien_set (h : Rel P an H w pl ow) (b : Nat) (x : Go.Obj) (hb : ow b = none) (hc : ∀ c e f, w.heap[b]? ≠ some (.cells c e f)) :
    Rel P an H { w with heap := w.heap.setIfInBounds b x } pl ow := by
  have hheap : ∀ i, i ≠ b → (w.heap.setIfInBounds b x)[i]? = w.heap[i]? := fun i hi => by rw [Array.getElem?_setIfInBounds, if_neg (Ne.symm hi)]
  refine ⟨?_, h.align, ?_, h.fresh, ?_, fun o p e => by have := h.places o p e; simpa using this, ?_, h.grow.keep (.refl _) (fun _ _ _ _ g => g) (fun _ _ _ _ _ g => .inl ⟨_, _, _, _, g⟩) fun _ _ _ _ _ b' hb' => ⟨hheap b' fun e => (by rw [e, hb] at hb'; rcases hb' with hb' | hb' <;> cases hb'), rfl⟩, h.low⟩
  · intro o c fam ro g
    obtain ⟨p, a2, el, fz, r⟩ := h.obj o c fam ro g
    exact ⟨p, a2, el, fz, r.keep (.refl _) (hheap _ fun e => hc _ _ _ (by rw [← e]; exact r.heap)) rfl⟩
  · intro l r g
    obtain ⟨p, L, q⟩ := h.loop l r g
    exact ⟨p, L, q.keep (.refl _) (hheap _ fun e => by have := q.own; rw [e, hb] at this; cases this) rfl⟩
  · intro i y g
    have := h.rooms i y g
    simpa using this
  · intro i k u e
    obtain ⟨g1, arr, el, z, g2, g3⟩ := h.froz i k u e
    have hi : i ≠ b := fun y => by rw [y] at g2; exact hc _ _ _ g2
    exact ⟨g1, arr, el, z, by show (w.heap.setIfInBounds b x)[i]? = _; rw [hheap i hi]; exact g2, g3⟩

theorem Rel.push_loop (h : Rel P an H w pl ow) (r : Rec) (L : Loop)
    (q : ∀ pl' w' ow' p, pl.le pl' → pl' H.next = some p → w'.heap[p.block]? = some (.loop L) → ow' p.block = some (H.next, true) → LoopR P an w' pl' ow' H.next r p L) :
    let pl' := pl.put H.next ⟨w.heap.size, 0, 0, true⟩
    let ow' := upd ow w.heap.size (H.next, true)
    let w' := { w with heap := w.heap.push (.loop L) }
    Rel P an (H.push (.loop r)) w' pl' ow' ∧ Ext H w pl ow (H.push (.loop r)) w' pl' ow' := by
  intro pl' ow' w'
  have hle : pl.le pl' := put_le _ (h.fresh _ (Nat.le_refl _))
  have hheap : ∀ b, b < w.heap.size → w'.heap[b]? = w.heap[b]? := fun b hb => get_push_lt _ _ hb
  have how : ∀ b, b < w.heap.size → ow' b = ow b := fun b hb => upd_ne _ _ (by omega)
  have hsz : w'.heap.size = w.heap.size + 1 := Array.size_push _
  refine ⟨⟨?_, ?_, ?_, ?_, ?_, places_upd h.places (by simp only; omega) (by omega), Froz.keep h.froz rfl fun b hl hb => ⟨hheap b hl, (how b hl).trans hb⟩, h.grow_push (by simp) (fun _ _ _ _ e => by cases e) hle fun x _ _ _ _ b hb => have hl : b < w.heap.size := hb.elim (h.rooms b _) (h.rooms b _); ⟨hheap b hl, how b hl⟩, low_upd h.low _ (by first | exact hf | exact Nat.le_refl _)⟩, ⟨by simp, by omega, hle, how, fun b hb _ => hheap b hb, new_upd (by simp only; omega) (by simp only; rw [show ow' = upd ow _ _ from rfl, upd_self]; simp), ⟨rfl, rfl, rfl⟩, fun _ _ _ e => .inl e⟩⟩
  · intro o c' fam ro g
    rw [Heap.get_push] at g
    split at g
    · cases g
    · obtain ⟨p, a2, el, fz, r⟩ := h.obj o c' fam ro g
      exact ⟨p, a2, el, fz, r.keep hle (hheap _ (ObjOk.lt r)) (how _ (ObjOk.lt r))⟩
  · intro o c1 f a o' c2 f' a' p p' g1 g2 e1 e2 hb
    rw [Heap.get_push] at g1 g2
    split at g1
    · cases g1
    · split at g2
      · cases g2
      · rename_i n1 n2
        rw [show pl' = pl.put H.next _ from rfl, put_ne _ _ n1] at e1
        rw [show pl' = pl.put H.next _ from rfl, put_ne _ _ n2] at e2
        exact h.align _ _ _ _ _ _ _ _ _ _ g1 g2 e1 e2 hb
  · intro l rc g
    rw [Heap.get_push] at g
    by_cases e : l = H.next
    · rw [if_pos e] at g
      cases g
      subst e
      refine ⟨⟨w.heap.size, 0, 0, true⟩, L, q pl' w' ow' _ hle (upd_self _ _ _) ?_ (upd_self _ _ _)⟩
      show (w.heap.push _)[w.heap.size]? = _
      simp
    · rw [if_neg e] at g
      obtain ⟨p, L, q⟩ := h.loop l rc g
      exact ⟨p, L, q.keep hle (hheap _ q.lt) (how _ q.lt)⟩
  · intro o ho
    rw [Heap.next_push] at ho
    rw [show pl' = pl.put H.next _ from rfl, put_ne _ _ (by omega)]
    exact h.fresh o (by omega)
  · intro b x g
    by_cases e : b = w.heap.size
    · omega
    · rw [show ow' = upd ow _ _ from rfl, upd_ne _ _ e] at g
      have := h.rooms b x g
      omega

theorem Rel.put_loop (h : Rel P an H w pl ow) {l : Nat} {r0 r : Rec} {p : Place} {L0 L : Loop} (g : H.get l = some (.loop r0)) (q0 : LoopR P an w pl ow l r0 p L0)
    (q : LoopR P an { w with heap := w.heap.setIfInBounds p.block (.loop L) } pl ow l r p L) :
    Rel P an (H.set l (.loop r)) { w with heap := w.heap.setIfInBounds p.block (.loop L) } pl ow ∧
    Ext H w pl ow (H.set l (.loop r)) { w with heap := w.heap.setIfInBounds p.block (.loop L) } pl ow := by
  have hl := Heap.lt_of_get g
  have hheap : ∀ i, i ≠ p.block → (w.heap.setIfInBounds p.block (.loop L))[i]? = w.heap[i]? := fun i hi => by rw [Array.getElem?_setIfInBounds, if_neg (Ne.symm hi)]
  refine ⟨⟨?_, ?_, ?_, ?_, ?_, fun o p e => by have := h.places o p e; simpa using this, Froz.keep h.froz rfl fun b _ hb => ⟨hheap b fun e => (by rw [e, q0.own] at hb; cases hb), hb⟩, h.grow.keep (.refl _) (fun x c len es gx => ?_) (fun i ci fi ai roi gi => ?_) fun x _ _ _ gx b hb => ⟨hheap b (h.grow_far_loop gx g q0.own hb), rfl⟩, h.low⟩, ⟨Nat.le_refl _, by simp, .refl _, fun _ _ => rfl, fun b _ hb => hheap b fun e => (by rw [e, q0.own] at hb; cases hb), noNew, ⟨rfl, rfl, rfl⟩, fun _ _ _ e => .inl e⟩⟩
  · intro o c fam ro go
    rw [Heap.get_set _ _ _ _ hl] at go
    split at go
    · cases go
    · obtain ⟨p', a2, el, fz, r'⟩ := h.obj o c fam ro go
      exact ⟨p', a2, el, fz, r'.keep (.refl _) (hheap _ fun e => by have := r'.heap; rw [e, q0.heap] at this; cases this) rfl⟩
  · intro o c1 f a o' c2 f' a' p1 p2 g1 g2 e1 e2 hb
    rw [Heap.get_set _ _ _ _ hl] at g1 g2
    split at g1
    · cases g1
    · split at g2
      · cases g2
      · exact h.align _ _ _ _ _ _ _ _ _ _ g1 g2 e1 e2 hb
  · intro i rc gi
    rw [Heap.get_set _ _ _ _ hl] at gi
    by_cases e : i = l
    · rw [if_pos e] at gi; cases gi; subst e; exact ⟨p, L, q⟩
    · rw [if_neg e] at gi
      obtain ⟨p', L', q'⟩ := h.loop i rc gi
      refine ⟨p', L', q'.keep (.refl _) (hheap _ fun x => ?_) rfl⟩
      have := q'.own; rw [x, q0.own] at this; simp at this; omega
  · intro o ho; exact h.fresh o (by simpa using ho)
  · intro b x hb; have := h.rooms b x hb; simpa using this
  · rw [Heap.get_set _ _ _ _ hl] at gx
    split at gx
    · cases gx
    · exact gx
  · rw [Heap.get_set _ _ _ _ hl] at gi
    split at gi
    · cases gi
    · exact .inl ⟨_, _, _, _, gi⟩
end push
end Go.Proofs.Ytmbepddfhlcebaa.Am
