/- What one operation does to the world, against what it does to the abstract state: the general part. -/
import Derived.Test.YtcpdnjehmnbheaaDoorVB
import Derived.Deep.MidRow
import Derived.WalkKit
set_option linter.unusedSectionVars false
namespace Go.VM
open Ops
variable [Ops] [Glb] [Lim]
open Go.RowKit (Below)

theorem getL_eq {α : Type} (l : List α) (n : Nat) (d : α) : getL l n d = l.getD n d := by
  induction l generalizing n with
  | nil => cases n <;> rfl
  | cons a r ih => cases n with
    | zero => rfl
    | succ n => simpa [getL] using ih n

theorem setL_eq {α : Type} (l : List α) (n : Nat) (v : α) : setL l n v = l.set n v := by
  induction l generalizing n with
  | nil => cases n <;> rfl
  | cons a r ih => cases n with
    | zero => rfl
    | succ n => simp [setL, ih]

theorem lenL_eq {α : Type} (l : List α) : lenL l = l.length := by
  induction l with
  | nil => rfl
  | cons a r ih => simp [lenL, ih]

theorem takeL_eq {α : Type} (l : List α) (n : Nat) : takeL l n = l.take n := by
  induction l generalizing n with
  | nil => cases n <;> rfl
  | cons a r ih => cases n with
    | zero => rfl
    | succ n => simp [takeL, ih]

theorem dropL_eq {α : Type} (l : List α) (n : Nat) : dropL l n = l.drop n := by
  induction l generalizing n with
  | nil => cases n <;> rfl
  | cons a r ih => cases n with
    | zero => rfl
    | succ n => simp [dropL, ih]

theorem overL_length {α : Type} (l : List α) (n : Nat) (bs : List α) : (overL l n bs).length = l.length := by
  induction l generalizing n bs with
  | nil => cases n <;> cases bs <;> simp [overL]
  | cons a r ih => cases n <;> cases bs <;> simp [overL, ih]

theorem overL_getD {α : Type} (l : List α) (n : Nat) (bs : List α) (d : α) (k : Nat) (h : n + bs.length ≤ l.length) :
    (overL l n bs).getD k d = if n ≤ k ∧ k < n + bs.length then bs.getD (k - n) d else l.getD k d := by
  induction l generalizing n bs k with
  | nil =>
    have : bs = [] := by cases bs <;> simp at h ⊢
    subst this
    cases n <;> simp [overL]
  | cons a r ih =>
    cases bs with
    | nil =>
      have : overL (a :: r) n ([] : List α) = a :: r := by cases n <;> rfl
      rw [this, if_neg (by simp)]
    | cons b bs =>
      cases n with
      | zero =>
        cases k with
        | zero => simp [overL]
        | succ k =>
          have := ih 0 bs k (by simp at h ⊢; omega)
          simp only [overL, List.getD_cons_succ, this, Nat.zero_le, true_and, List.length_cons, Nat.zero_add, Nat.sub_zero]
          by_cases hk : k < bs.length
          · rw [if_pos hk, if_pos (by omega)]
          · rw [if_neg hk, if_neg (by omega)]
      | succ n =>
        cases k with
        | zero => simp [overL]
        | succ k =>
          have := ih n (b :: bs) k (by simp at h ⊢; omega)
          simp only [overL, List.getD_cons_succ, this]
          by_cases hk : n ≤ k ∧ k < n + (b :: bs).length
          · rw [if_pos hk, if_pos (by omega), show k + 1 - (n + 1) = k - n by omega]
          · rw [if_neg hk, if_neg (by omega)]

theorem addO_eq (a b : Nat) : addO a b = a + b := by cases a <;> simp [addO, addN_eq]
theorem offG_eq (k : Nat) (g : Nat → Nat → D) (i j : Nat) : offG k g i j = g (k + i) j := by cases k <;> simp [offG, shG_eq]

/-! ### The types -/
def kindOf : TypeDesc → TK
  | .int k => .int k
  | .bool => .bool
  | .string => .string
  | .slice e => .slice e
  | .struct fs => .struct (fs.toList.map fun f => (f.offset, f.type))
  | .array n e => .array n e
  | .pointer e => .pointer e
  | .func .. => .func
  | _ => .other

structure TIOk (P : Program) (t : Nat) (i : TI) : Prop where
  und : ∃ d, P.underlying t = some d ∧ kindOf d = i.kind
  info : ∃ inf z, P.info? t = some inf ∧ inf.size = i.size ∧ inf.bytes = i.bytes ∧ inf.zero = some z ∧ z.cells.toList.map absLeaf = i.zero ∧ z.cells.size = i.size

def EqOk (P : Program) (t : Nat) (e : List A → List A → (A → Prop) → Prop) : Prop :=
  ∀ xs ys Q, e xs ys Q → ∃ b, Q (.d (.bool b)) ∧ ∀ w I ι H vx vy, RepA w I ι H (.agg vx) (.agg xs) → RepA w I ι H (.agg vy) (.agg ys) →
    (∀ op x y, (eqGuard op t x y (.agg vx) (.agg vy)).run P w = .ok () w) ∧ (Op.equal t (.agg vx) (.agg vy)).run P w = .ok b w

structure TabOk (P : Program) (T : Tab) : Prop where
  ti : ∀ t i, T.ti t = some i → TIOk P t i
  eq : ∀ t e, T.eq t = some e → EqOk P t e
  fn : ∀ f, T.fn f = true → ∃ fn, P.funcs[f]? = some fn ∧ fn.body.isNone = false ∧ (fn.name == "runtime.NumGoroutine") = false
  mixed : P.follows .mixedOrders = true
  mono : ∀ t e xs ys Q Q', T.eq t = some e → (∀ a, Q a → Q' a) → e xs ys Q → e xs ys Q'

section run
variable {P : Program} {t : Nat} {i : TI}
theorem TIOk.sizeOf (h : TIOk P t i) (w : World) : (sizeOf t).run P w = .ok i.size w := by
  obtain ⟨inf, z, h1, h2, -⟩ := h.info
  simp [Go.sizeOf, typeInfo, h1, h2]
theorem TIOk.typeInfo (h : TIOk P t i) (w : World) : ∃ inf, (typeInfo t).run P w = .ok inf w ∧ inf.size = i.size ∧ inf.bytes = i.bytes := by
  obtain ⟨inf, z, h1, h2, h3, -⟩ := h.info
  exact ⟨inf, by simp [Go.typeInfo, h1], h2, h3⟩
theorem TIOk.zeroValue (h : TIOk P t i) (w : World) : ∃ z, (zeroValue t).run P w = .ok z w ∧ z.cells.toList.map absLeaf = i.zero ∧ z.cells.size = i.size := by
  obtain ⟨inf, z, h1, h2, h3, h4, h5⟩ := h.info
  exact ⟨z, by simp [Go.zeroValue, Go.typeInfo, h1, h4], h5⟩
theorem TIOk.underlying (h : TIOk P t i) : ∃ d, kindOf d = i.kind ∧ ∀ w, (underlying t).run P w = .ok d w := by
  obtain ⟨d, h1, h2⟩ := h.und
  exact ⟨d, h2, fun w => run_underlying h1 w⟩
theorem kindOf_slice {d : TypeDesc} {e : Nat} (h : kindOf d = .slice e) : d = .slice e := by cases d <;> simp_all [kindOf]
theorem kindOf_array {d : TypeDesc} {n e : Nat} (h : kindOf d = .array n e) : d = .array n e := by cases d <;> simp_all [kindOf]
theorem kindOf_int {d : TypeDesc} {k : IntKind} (h : kindOf d = .int k) : d = .int k := by cases d <;> simp_all [kindOf]
theorem kindOf_string {d : TypeDesc} (h : kindOf d = .string) : d = .string := by cases d <;> simp_all [kindOf]
theorem kindOf_bool {d : TypeDesc} (h : kindOf d = .bool) : d = .bool := by cases d <;> simp_all [kindOf]
theorem kindOf_struct {d : TypeDesc} {fs : List (Nat × Nat)} (h : kindOf d = .struct fs) : ∃ f, d = .struct f ∧ f.toList.map (fun f => (f.offset, f.type)) = fs := by
  cases d <;> simp_all [kindOf]
theorem TIOk.isAgg (h : TIOk P t i) (w : World) : (isAgg t).run P w = .ok i.kind.isAgg w := by
  obtain ⟨d, h1, h2⟩ := h.underlying
  unfold Go.isAgg
  rw [Sem.run_bind, h2 w, ← h1]
  cases d <;> rfl
end run

/-! ### Constants -/
theorem absLeaf_rep (w : World) (I : Nat → Nat → Prop) (ι : Nat → Option Nat) (H : AHeap) (v : Value) : RepA w I ι H v (absLeaf v) := by
  unfold absLeaf
  split
  · exact .d _ _ (.int _ _)
  · exact .d _ _ (.bool _)
  · exact .d _ _ (.str _)
  · exact .nils
  · exact .d _ _ .nilp
  · exact .d _ _ .nilf
  · exact .d _ _ .nili
  · exact .undef _

theorem absV_rep (w : World) (I : Nat → Nat → Prop) (ι : Nat → Option Nat) (H : AHeap) (v : Value) : RepA w I ι H v (absV v) := by
  unfold absV
  split
  · rename_i cs
    have := RepA.agg (w := w) (I := I) (ι := ι) (H := H) cs.toList (cs.toList.map absLeaf) (by simp) (fun k hk => by
      have hk' : k < cs.toList.length := by simpa using hk
      simp only [List.getD_eq_getElem?_getD, List.getElem?_map, List.getElem?_eq_getElem hk', Option.map_some, Option.getD_some]
      exact absLeaf_rep _ _ _ _ _)
    simpa using this
  · exact absLeaf_rep _ _ _ _ _

/-- the state's slots stand for the frame's -/
def RepT (w : World) (I : Nat → Nat → Prop) (ι : Nat → Option Nat) (H : AHeap) (a : Act) (tm : List A) : Prop :=
  a.tmps.size = tm.length ∧ ∀ t, t < tm.length → RepA w I ι H (a.tmps.getD t undef) (tm.getD t .undef)

theorem ev_rep {w : World} {I : Nat → Nat → Prop} {ι : Nat → Option Nat} {H : AHeap} {a : Act} {tm : List A} (h : RepT w I ι H a tm) (x : Operand) : RepA w I ι H (a.eval x) (ev tm x) := by
  cases x with
  | tmp t =>
    simp only [ev, Act.eval, getL_eq]
    by_cases ht : t < tm.length
    · exact h.2 t ht
    · simp only [List.getD_eq_getElem?_getD, List.getElem?_eq_none (Nat.le_of_not_lt ht), Option.getD_none]
      exact .undef _
  | const v => exact absV_rep _ _ _ _ _
  | global g => exact .undef _
  | func f =>
    have := RepA.clo (w := w) (I := I) (ι := ι) (H := H) f [] [] [] [] rfl rfl (fun k hk => absurd hk (by simp)) (fun k hk => absurd hk (by simp))
    simpa [ev, Act.eval] using this

theorem RepT.goes {w w' : World} {I I' : Nat → Nat → Prop} {ι ι' : Nat → Option Nat} {H H' : AHeap} {a : Act} {tm : List A} (h : RepT w I ι H a tm) (g : Goes w w' I I' ι ι' H H') : RepT w' I' ι' H' a tm :=
  ⟨h.1, fun t ht => (h.2 t ht).goes g⟩

theorem RepT.put {w : World} {I : Nat → Nat → Prop} {ι : Nat → Option Nat} {H : AHeap} {a : Act} {tm : List A} (h : RepT w I ι H a tm) (d : Option Nat) {v : Value} {x : A} (hv : RepA w I ι H v x) : RepT w I ι H (a.put d v) (put tm d x) := by
  cases d with
  | none => exact h
  | some d =>
    refine ⟨by simp [Act.put, Go.VM.put, setL_eq, h.1], fun t ht => ?_⟩
    simp only [Act.put, Go.VM.put, setL_eq, List.length_set] at ht ⊢
    have h1 := h.1
    by_cases e : d = t
    · subst e
      simp only [Array.getD_eq_getD_getElem?, Array.getElem?_setIfInBounds, List.getD_eq_getElem?_getD, List.getElem?_set]
      simp [ht, h1, hv]
    · have := h.2 t ht
      simp only [Array.getD_eq_getD_getElem?, Array.getElem?_setIfInBounds, List.getD_eq_getElem?_getD, List.getElem?_set, e, if_false] at this ⊢
      exact this

/-! ### How states go on -/
theorem Goes.refl (w : World) (I : Nat → Nat → Prop) (ι : Nat → Option Nat) (H : AHeap) : Goes w w I I ι ι H H :=
  ⟨fun _ _ _ => rfl, fun _ _ h => h, Nat.le_refl _, fun _ _ _ _ _ _ h => h, fun _ cs _ h => ⟨⟨cs, h⟩, rfl⟩,
    fun _ n _ get fz _ h => ⟨n, get, fz, h, Nat.le_refl _, fun _ => rfl⟩, fun _ s p _ h => ⟨⟨s, p, h⟩, rfl⟩⟩

theorem Goes.trans {w w1 w2 : World} {I I1 I2 : Nat → Nat → Prop} {ι ι1 ι2 : Nat → Option Nat} {H H1 H2 : AHeap} (g : Goes w w1 I I1 ι ι1 H H1) (k : Goes w1 w2 I1 I2 ι1 ι2 H1 H2) : Goes w w2 I I2 ι ι2 H H2 where
  same := fun b q h => (k.same b q (g.imm b q h)).trans (g.same b q h)
  imm := fun b q h => k.imm b q (g.imm b q h)
  len := Nat.le_trans g.len k.len
  ref := fun o off len sz v ho h => k.ref o off len sz v (Nat.lt_of_lt_of_le ho g.len) (g.ref o off len sz v ho h)
  ptr := fun o cs ho h => by
    obtain ⟨⟨cs1, h1⟩, e1⟩ := k.ptr o cs (Nat.lt_of_lt_of_le ho g.len) h
    obtain ⟨h2, e2⟩ := g.ptr o cs1 ho h1
    exact ⟨h2, e1.trans e2⟩
  eptr := fun o n sz get fz ho h => by
    obtain ⟨n1, get1, fz1, h1, l1, e1⟩ := k.eptr o n sz get fz (Nat.lt_of_lt_of_le ho g.len) h
    obtain ⟨n2, get2, fz2, h2, l2, e2⟩ := g.eptr o n1 sz get1 fz1 ho h1
    exact ⟨n2, get2, fz2, h2, Nat.le_trans l2 l1, fun e => (e1 (by omega)).trans (e2 (by omega))⟩
  itr := fun o s p ho h => by
    obtain ⟨⟨s1, p1, h1⟩, e1⟩ := k.itr o s p (Nat.lt_of_lt_of_le ho g.len) h
    obtain ⟨h2, e2⟩ := g.itr o s1 p1 ho h1
    exact ⟨h2, e1.trans e2⟩

/-- No block has shrunk. -/
def Grow (w w' : World) : Prop := ∀ (b : Nat) (vs : Array Value) (el : TypeId) (fr : Nat × Nat), w.heap[b]? = some (.cells vs el fr) → ∃ (vs' : Array Value) (el' : TypeId) (fr' : Nat × Nat), w'.heap[b]? = some (.cells vs' el' fr') ∧ vs'.size = vs.size

theorem Grow.refl (w : World) : Grow w w := fun _ vs el fr h => ⟨vs, el, fr, h, rfl⟩

theorem RefOk.grow {w w' : World} (g : Grow w w') {ι ι' : Nat → Option Nat} {o off len sz : Nat} (e : ι' o = ι o) {v : Value} (h : RefOk w ι o off len sz v) : RefOk w' ι' o off len sz v := by
  rcases h with ⟨b, cap, vs, el, fr, h1, h2, h3, h4, h5⟩ | ⟨h1, h2⟩ | h
  · obtain ⟨vs', el', fr', h6, h7⟩ := g b vs el fr h3
    exact .inl ⟨b, cap, vs', el', fr', e.trans h1, h2, h6, by omega, h5⟩
  · exact .inr (.inl ⟨e.trans h1, h2⟩)
  · exact .inr (.inr h)

/-- An object that is not the one that changes. -/
theorem ObjOk.keep {B : Nat} {w w' : World} {I I' : Nat → Nat → Prop} {ι ι' : Nat → Option Nat} {H H' : AHeap} (g : Goes w w' I I' ι ι' H H') {o : Nat} {x : AObj} (e : ι' o = ι o)
    (hb : ∀ b, ι o = some b → w'.heap[b]? = w.heap[b]?) (hI : ∀ b k, ι o = some b → I' b k → I b k) (h : ObjOk B ι I w H o x) : ObjOk B ι' I' w' H' o x := by
  have hfree : ∀ b n, ι o = some b → Free w I b n → Free w' I' b n := fun b n hi hf =>
    ⟨fun k hk hc => hf.1 k hk (hI b k hi hc), fun k hk => by
      have := hf.2 k hk
      unfold World.frozen? at this ⊢
      rw [hb b hi]; exact this⟩
  cases x with
  | dead => trivial
  | iter s p =>
    obtain ⟨b, h1, h2, h3⟩ := h
    exact ⟨b, e.trans h1, h2, (hb b h1).trans h3⟩
  | box cs =>
    obtain ⟨b, vs, el, fr, h1, h2, h3, h4, h5, h6⟩ := h
    exact ⟨b, vs, el, fr, e.trans h1, h2, (hb b h1).trans h3, h4, fun k hk => (h5 k hk).goes g, hfree b 0 h1 h6⟩
  | arr n sz get fz =>
    obtain ⟨hfz, h⟩ := h
    refine ⟨hfz, ?_⟩
    rcases h with ⟨b, vs, el, fr, h1, h2, h3, h4, h5, h6⟩ | ⟨h1, h2⟩
    · exact .inl ⟨b, vs, el, fr, e.trans h1, h2, (hb b h1).trans h3, h4, fun i j hi hj => (h5 i j hi hj).mono g.same g.imm, hfree b _ h1 h6⟩
    · exact .inr ⟨e.trans h1, h2⟩

/-- A draw, or whatever leaves the heap alone. -/
theorem Goes.heap {w w' : World} (h : w'.heap = w.heap) (I : Nat → Nat → Prop) (ι : Nat → Option Nat) (H : AHeap) : Goes w w' I I ι ι H H := by
  refine { Goes.refl w I ι H with same := fun b k _ => ?_, ref := fun o off len sz v ho hx => ?_ }
  · simp [World.cell?, h]
  · intro n sz' get fz h1 h2
    refine ⟨(hx n sz' get fz h1 h2).1, fun e => ((hx n sz' get fz h1 h2).2 e).grow ?_ rfl⟩
    intro b vs el fr hb
    exact ⟨vs, el, fr, by rw [h]; exact hb, rfl⟩

theorem Rel.heap {B : Nat} {w w' : World} (h : w'.heap = w.heap) {I : Nat → Nat → Prop} {ι : Nat → Option Nat} {H : AHeap} (r : Rel B ι I w H) : Rel B ι I w' H where
  base := by rw [h]; exact r.base
  imm := by rw [h]; exact r.imm
  low := r.low
  glob := (Goes.heap h I ι H).glob r.glob
  obj := fun o x hx => (r.obj o x hx).keep (Goes.heap h I ι H) rfl (fun b _ => by rw [h]) (fun _ _ _ hk => hk)
  inj := r.inj

def updι (ι : Nat → Option Nat) (o : Nat) (b : Option Nat) : Nat → Option Nat := fun o' => if o' = o then b else ι o'

/-- A new object, in a new block (or in none). -/
theorem Goes.new {w w' : World} (hb : ∀ b, b < w.heap.size → w'.heap[b]? = w.heap[b]?) {I : Nat → Nat → Prop} (hI : ∀ b k, I b k → b < w.heap.size) (ι : Nat → Option Nat) (H : AHeap) (x : AObj) (b : Option Nat) :
    Goes w w' I I ι (updι ι H.length b) H (H ++ [x]) where
  same := fun b k h => by unfold World.cell?; rw [hb b (hI b k h)]
  imm := fun _ _ h => h
  len := by simp
  ref := fun o off len sz v ho hx n sz' get fz h1 h2 => by
    rw [List.getElem?_append_left ho] at h1
    refine ⟨(hx n sz' get fz h1 h2).1, fun e => ((hx n sz' get fz h1 h2).2 e).grow ?_ (by simp [updι]; omega)⟩
    intro b vs el fr hv
    have : b < w.heap.size := by
      rcases Nat.lt_or_ge b w.heap.size with h | h
      · exact h
      · simp [Array.getElem?_eq_none h] at hv
    exact ⟨vs, el, fr, (hb b this).trans hv, rfl⟩
  ptr := fun o cs ho h => by
    rw [List.getElem?_append_left ho] at h
    exact ⟨⟨cs, h⟩, by simp [updι]; omega⟩
  eptr := fun o n sz get fz ho h => by
    rw [List.getElem?_append_left ho] at h
    exact ⟨n, get, fz, h, Nat.le_refl _, fun _ => by simp [updι]; omega⟩
  itr := fun o s p ho h => by
    rw [List.getElem?_append_left ho] at h
    exact ⟨⟨s, p, h⟩, by simp [updι]; omega⟩

theorem lt_of_heap {w : World} {b : Nat} {x : Obj} (h : w.heap[b]? = some x) : b < w.heap.size := by
  rcases Nat.lt_or_ge b w.heap.size with h' | h'
  · exact h'
  · simp [Array.getElem?_eq_none h'] at h

/-- the block of a live object is there -/
theorem ObjOk.lt {B : Nat} {ι : Nat → Option Nat} {I : Nat → Nat → Prop} {w : World} {H : AHeap} {o : Nat} {x : AObj} (h : ObjOk B ι I w H o x) (hx : x.live) {b : Nat} (hi : ι o = some b) : B ≤ b ∧ b < w.heap.size := by
  cases x with
  | dead => exact hx.elim
  | iter s p =>
    obtain ⟨b', h1, h2, h3⟩ := h
    obtain rfl : b = b' := by rw [h1] at hi; exact (Option.some.inj hi).symm
    exact ⟨h2, lt_of_heap h3⟩
  | box cs =>
    obtain ⟨b', vs, el, fr, h1, h2, h3, h4, h5, h6⟩ := h
    obtain rfl : b = b' := by rw [h1] at hi; exact (Option.some.inj hi).symm
    exact ⟨h2, lt_of_heap h3⟩
  | arr n sz get fz =>
    rcases h.2 with ⟨b', vs, el, fr, h1, h2, h3, -⟩ | ⟨h1, h2⟩
    · obtain rfl : b = b' := by rw [h1] at hi; exact (Option.some.inj hi).symm
      exact ⟨h2, lt_of_heap h3⟩
    · rw [h1] at hi; cases hi

theorem Rel.new {B : Nat} {w w' : World} {I : Nat → Nat → Prop} {ι : Nat → Option Nat} {H : AHeap} (r : Rel B ι I w H) (hs : w.heap.size ≤ w'.heap.size) (hb : ∀ b, b < w.heap.size → w'.heap[b]? = w.heap[b]?) (x : AObj) (b : Option Nat)
    (hbn : ∀ b', b = some b' → w.heap.size ≤ b')
    (hx : ObjOk B (updι ι H.length b) I w' (H ++ [x]) H.length x) : Rel B (updι ι H.length b) I w' (H ++ [x]) where
  base := Nat.le_trans r.base hs
  imm := fun b k h => Nat.lt_of_lt_of_le (r.imm b k h) hs
  low := r.low
  glob := (Goes.new hb r.imm ι H x b).glob r.glob
  obj := fun o y hy => by
    rcases Nat.lt_or_ge o H.length with ho | ho
    · rw [List.getElem?_append_left ho] at hy
      by_cases hl : y.live
      · exact (r.obj o y hy).keep (Goes.new hb r.imm ι H x b) (by simp [updι]; omega) (fun b' hi => hb b' ((r.obj o y hy).lt hl hi).2) (fun _ _ _ hk => hk)
      · cases y <;> first | trivial | exact (hl trivial).elim
    · have : o = H.length := by
        have := (List.getElem?_eq_some_iff.1 hy).1
        simp at this; omega
      subst this
      simp at hy
      subst hy
      exact hx
  inj := fun o o' y y' c hy hy' hl hl' hc hc' => by
    rcases Nat.lt_or_ge o H.length with ho | ho <;> rcases Nat.lt_or_ge o' H.length with ho' | ho'
    · rw [List.getElem?_append_left ho] at hy
      rw [List.getElem?_append_left ho'] at hy'
      simp only [updι, if_neg (show ¬ o = H.length by omega)] at hc
      simp only [updι, if_neg (show ¬ o' = H.length by omega)] at hc'
      exact r.inj o o' y y' c hy hy' hl hl' hc hc'
    · rw [List.getElem?_append_left ho] at hy
      simp only [updι, if_neg (show ¬ o = H.length by omega)] at hc
      have h2 := (List.getElem?_eq_some_iff.1 hy').1
      have e : o' = H.length := by simp at h2; omega
      simp only [updι, e, if_true] at hc'
      have := ((r.obj o y hy).lt hl hc).2
      have := hbn c hc'
      omega
    · rw [List.getElem?_append_left ho'] at hy'
      simp only [updι, if_neg (show ¬ o' = H.length by omega)] at hc'
      have h2 := (List.getElem?_eq_some_iff.1 hy).1
      have e : o = H.length := by simp at h2; omega
      simp only [updι, e, if_true] at hc
      have := ((r.obj o' y' hy').lt hl' hc').2
      have := hbn c hc
      omega
    · have h1 := (List.getElem?_eq_some_iff.1 hy).1
      have h2 := (List.getElem?_eq_some_iff.1 hy').1
      simp at h1 h2; omega

end Go.VM
