/- What the abstract values stand for, and that it stays so where the world goes on. -/
import Derived.Test.YtcpdnjehmnbheaaDoorVA
set_option linter.unusedSectionVars false
namespace Go.VM
open Go.RowKit (Below)

/-- The same data, seen up to its length. -/
inductive Deq : D → D → Prop
  | refl (x : D) : Deq x x
  | nil (sz sz' : Nat) (g g' : Nat → Nat → D) : Deq (.sl 0 sz g) (.sl 0 sz' g')
  | sl (len sz : Nat) (g g' : Nat → Nat → D) (h : ∀ i j, i < len → j < sz → Deq (g i j) (g' i j)) : Deq (.sl len sz g) (.sl len sz g')

inductive RepD (w : World) (I : Nat → Nat → Prop) : Value → D → Prop
  | int (k : IntKind) (n : Int) : RepD w I (.int k n) (.int k n)
  | bool (b : Bool) : RepD w I (.bool b) (.bool b)
  | str (s : ByteArray) : RepD w I (.string s) (.str s)
  | nilp : RepD w I (.pointer none) .nilp
  | nilf : RepD w I .nilFunc .nilf
  | nili : RepD w I .nilIface .nili
  | sl0 (a : Option Addr) (cap sz : Nat) (get : Nat → Nat → D) : RepD w I (.slice a 0 cap) (.sl 0 sz get)
  | sl (b o len cap sz : Nat) (get : Nat → Nat → D) (vals : Nat → Nat → Value) (hl : len ≤ cap)
      (hc : ∀ i j, i < len → j < sz → I b (o + (i * sz + j)) ∧ w.cell? ⟨b, o + (i * sz + j), none⟩ = some (vals i j))
      (hr : ∀ i j, i < len → j < sz → RepD w I (vals i j) (get i j)) : RepD w I (.slice (some ⟨b, o, none⟩) len cap) (.sl len sz get)

def RefOk (w : World) (ι : Nat → Option Nat) (o off len sz : Nat) (v : Value) : Prop :=
  (∃ b cap vs el fr, ι o = some b ∧ v = .slice (some ⟨b, off * sz, none⟩) len cap ∧ w.heap[b]? = some (.cells vs el fr) ∧ (off + cap) * sz ≤ vs.size ∧ len ≤ cap) ∨
  (ι o = none ∧ v = .slice none 0 0 ∧ len = 0) ∨ (∃ a, v = .slice a 0 0 ∧ len = 0 ∧ off ≠ 0)

inductive RepA (w : World) (I : Nat → Nat → Prop) (ι : Nat → Option Nat) (H : AHeap) : Value → A → Prop
  | d (v : Value) (x : D) (h : RepD w I v x) : RepA w I ι H v (.d x)
  | nils : RepA w I ι H (.slice none 0 0) .nils
  | ref (v : Value) (o off len sz : Nat) (ho : o < H.length)
      (h : ∀ n sz' get fz, H[o]? = some (.arr n sz' get fz) → sz' = sz → off + len ≤ n ∧ (off + len = n → RefOk w ι o off len sz v)) (hlen : ∃ a c, v = .slice a len c) : RepA w I ι H v (.ref o off len sz)
  | ptr (v : Value) (o off : Nat) (ho : o < H.length) (h : ∀ cs, H[o]? = some (.box cs) → ∃ b, ι o = some b ∧ v = .pointer (some ⟨b, off, none⟩)) (hv : ∃ a, v = .pointer (some a)) : RepA w I ι H v (.ptr o off)
  | eptr (v : Value) (o i j len : Nat) (ho : o < H.length)
      (h : ∀ n sz get fz, H[o]? = some (.arr n sz get fz) → len ≤ n ∧ (n = len → i < n → ∃ b, ι o = some b ∧ v = .pointer (some ⟨b, i * sz + j, none⟩))) (hv : ∃ a, v = .pointer (some a)) : RepA w I ι H v (.eptr o i j len)
  | iptr (b o : Nat) (get : Nat → Nat → D) (i j sz : Nat) (vals : Nat → Value)
      (hc : ∀ q, q < sz → I b (o + q) ∧ w.cell? ⟨b, o + q, none⟩ = some (vals q))
      (hr : ∀ q, q < sz → RepD w I (vals q) (get i q)) : RepA w I ι H (.pointer (some ⟨b, o + j, none⟩)) (.iptr get i j sz)
  | itr (v : Value) (o : Nat) (ho : o < H.length) (h : ∀ s p, H[o]? = some (.iter s p) → ∃ b, ι o = some b ∧ v = .pointer (some ⟨b, 0, none⟩)) (hv : ∃ a, v = .pointer (some a)) : RepA w I ι H v (.itr o)
  | clo (f : FuncId) (fv cv : List Value) (first caps : List A) (h1 : fv.length = first.length) (h2 : cv.length = caps.length)
      (hf : ∀ k, k < first.length → RepA w I ι H (fv.getD k undef) (first.getD k .undef))
      (hc : ∀ k, k < caps.length → RepA w I ι H (cv.getD k undef) (caps.getD k .undef)) : RepA w I ι H (.func (.func f) fv.toArray cv.toArray) (.clo f first caps)
  | agg (vs : List Value) (cs : List A) (h1 : vs.length = cs.length) (hc : ∀ k, k < cs.length → RepA w I ι H (vs.getD k undef) (cs.getD k .undef)) : RepA w I ι H (.agg vs.toArray) (.agg cs)
  | tup (vs : List Value) (cs : List A) (h1 : vs.length = cs.length) (hc : ∀ k, k < cs.length → RepA w I ι H (vs.getD k undef) (cs.getD k .undef)) : RepA w I ι H (.tuple vs.toArray) (.tup cs)
  | undef (v : Value) : RepA w I ι H v .undef

/-- a block that may be written from cell n on -/
def Free (w : World) (I : Nat → Nat → Prop) (b n : Nat) : Prop := (∀ k, n ≤ k → ¬ I b k) ∧ (∀ k, n ≤ k → w.frozen? ⟨b, k, none⟩ = false)

def ObjOk (B : Nat) (ι : Nat → Option Nat) (I : Nat → Nat → Prop) (w : World) (H : AHeap) (o : Nat) : AObj → Prop
  | .dead => True
  | .iter s p => ∃ b, ι o = some b ∧ B ≤ b ∧ w.heap[b]? = some (.stringIter s p)
  | .box cs => ∃ b vs el fr, ι o = some b ∧ B ≤ b ∧ w.heap[b]? = some (.cells vs el fr) ∧ vs.size = cs.length ∧ (∀ k, k < cs.length → RepA w I ι H (vs.getD k undef) (cs.getD k .undef)) ∧ Free w I b 0
  | .arr n sz get fz => fz ≤ n ∧ ((∃ b vs el fr, ι o = some b ∧ B ≤ b ∧ w.heap[b]? = some (.cells vs el fr) ∧ n * sz ≤ vs.size ∧ (∀ i j, i < n → j < sz → RepD w I (vs.getD (i * sz + j) undef) (get i j)) ∧ Free w I b (fz * sz)) ∨ (ι o = none ∧ n = 0))

def AObj.live : AObj → Prop
  | .dead => False
  | _ => True

/-- where, below a proof's ground, cells may never change -/
class Lim where
  L : Nat → Nat → Prop
/-- what stands in the program's own variables, as long as the proof lasts: block, cell, value -/
class Glb where
  G : Nat → Nat → Value → Prop
variable [Glb] [Lim]

structure Rel (B : Nat) (ι : Nat → Option Nat) (I : Nat → Nat → Prop) (w : World) (H : AHeap) : Prop where
  base : B ≤ w.heap.size
  imm : ∀ b k, I b k → b < w.heap.size
  low : ∀ b k, b < B → I b k → Lim.L b k
  glob : ∀ b k v, Glb.G b k v → I b k ∧ w.cell? ⟨b, k, none⟩ = some v
  obj : ∀ o x, H[o]? = some x → ObjOk B ι I w H o x
  inj : ∀ o o' x x' b, H[o]? = some x → H[o']? = some x' → x.live → x'.live → ι o = some b → ι o' = some b → o = o'

/-- nothing that may not change has changed -/
def Same (I : Nat → Nat → Prop) (w w' : World) : Prop := ∀ b k, I b k → w'.cell? ⟨b, k, none⟩ = w.cell? ⟨b, k, none⟩

theorem RepD.mono {w w' : World} {I I' : Nat → Nat → Prop} {v : Value} {x : D} (h : RepD w I v x) (hs : Same I w w') (hi : ∀ b k, I b k → I' b k) : RepD w' I' v x := by
  induction h with
  | int k n => exact .int k n
  | bool b => exact .bool b
  | str s => exact .str s
  | nilp => exact .nilp
  | nilf => exact .nilf
  | nili => exact .nili
  | sl0 a cap sz get => exact .sl0 a cap sz get
  | sl b o len cap sz get vals hl hc hr ih =>
    exact .sl b o len cap sz get vals hl (fun i j h1 h2 => ⟨hi _ _ (hc i j h1 h2).1, (hs _ _ (hc i j h1 h2).1).trans (hc i j h1 h2).2⟩) ih

theorem RepD.deq {w : World} {I : Nat → Nat → Prop} {x y : D} (e : Deq x y) : ∀ {v : Value}, RepD w I v x → RepD w I v y := by
  induction e with
  | refl x => exact fun h => h
  | nil sz sz' g g' =>
    intro v h
    cases h with
    | sl0 a cap => exact .sl0 a cap _ _
    | sl b o len cap sz get vals hl hc hr => exact .sl0 _ _ _ _
  | sl len sz g g' _ ih =>
    intro v h
    cases h with
    | sl0 a cap => exact .sl0 a cap _ _
    | sl b o len cap sz get vals hl hc hr => exact .sl b o len cap sz _ vals hl hc (fun i j h1 h2 => ih i j h1 h2 (hr i j h1 h2))

theorem RepD.oneCell {w : World} {I : Nat → Nat → Prop} {v : Value} {x : D} (h : RepD w I v x) : v.oneCell' = true := by cases h <;> rfl

theorem RepD.cells {w : World} {I : Nat → Nat → Prop} {v : Value} {x : D} (h : RepD w I v x) : v.cells = #[v] := by cases h <;> rfl

/-- how one state goes on into another: for a general reading -/
structure Goes (w w' : World) (I I' : Nat → Nat → Prop) (ι ι' : Nat → Option Nat) (H H' : AHeap) : Prop where
  same : Same I w w'
  imm : ∀ b k, I b k → I' b k
  len : H.length ≤ H'.length
  ref : ∀ o off len sz v, o < H.length → (∀ n sz' get fz, H[o]? = some (.arr n sz' get fz) → sz' = sz → off + len ≤ n ∧ (off + len = n → RefOk w ι o off len sz v)) →
    (∀ n sz' get fz, H'[o]? = some (.arr n sz' get fz) → sz' = sz → off + len ≤ n ∧ (off + len = n → RefOk w' ι' o off len sz v))
  ptr : ∀ o cs, o < H.length → H'[o]? = some (.box cs) → (∃ cs', H[o]? = some (.box cs')) ∧ ι' o = ι o
  eptr : ∀ o n sz get fz, o < H.length → H'[o]? = some (.arr n sz get fz) → ∃ n' get' fz', H[o]? = some (.arr n' sz get' fz') ∧ n' ≤ n ∧ (n = n' → ι' o = ι o)
  itr : ∀ o s p, o < H.length → H'[o]? = some (.iter s p) → (∃ s' p', H[o]? = some (.iter s' p')) ∧ ι' o = ι o

theorem Goes.glob {w w' : World} {I I' : Nat → Nat → Prop} {ι ι' : Nat → Option Nat} {H H' : AHeap} (g : Goes w w' I I' ι ι' H H') {G : Nat → Nat → Value → Prop} (h : ∀ b k v, G b k v → I b k ∧ w.cell? ⟨b, k, none⟩ = some v) : ∀ b k v, G b k v → I' b k ∧ w'.cell? ⟨b, k, none⟩ = some v :=
  fun b k v hg => ⟨g.imm _ _ (h b k v hg).1, (g.same _ _ (h b k v hg).1).trans (h b k v hg).2⟩

theorem RepA.goes {w w' : World} {I I' : Nat → Nat → Prop} {ι ι' : Nat → Option Nat} {H H' : AHeap} (g : Goes w w' I I' ι ι' H H') {v : Value} {x : A} (h : RepA w I ι H v x) : RepA w' I' ι' H' v x := by
  induction h with
  | d v x h => exact .d v x (h.mono g.same g.imm)
  | nils => exact .nils
  | ref v o off len sz ho h hl => exact .ref v o off len sz (Nat.lt_of_lt_of_le ho g.len) (g.ref o off len sz v ho h) hl
  | ptr v o off ho h hv =>
    refine .ptr v o off (Nat.lt_of_lt_of_le ho g.len) (fun cs hcs => ?_) hv
    obtain ⟨⟨cs', h'⟩, e⟩ := g.ptr o cs ho hcs
    rw [e]; exact h cs' h'
  | eptr v o i j len ho h hv =>
    refine .eptr v o i j len (Nat.lt_of_lt_of_le ho g.len) (fun n sz get fz hx => ?_) hv
    obtain ⟨n', get', fz', h', hn, hi⟩ := g.eptr o n sz get fz ho hx
    obtain ⟨h1, h2⟩ := h n' sz get' fz' h'
    refine ⟨Nat.le_trans h1 hn, fun e hlt => ?_⟩
    have e' : n' = len := by omega
    rw [hi (by omega)]; exact h2 e' (by omega)
  | iptr b o get i j sz vals hc hr =>
    exact .iptr b o get i j sz vals (fun q hq => ⟨g.imm _ _ (hc q hq).1, (g.same _ _ (hc q hq).1).trans (hc q hq).2⟩) (fun q hq => (hr q hq).mono g.same g.imm)
  | itr v o ho h hv =>
    refine .itr v o (Nat.lt_of_lt_of_le ho g.len) (fun s p hx => ?_) hv
    obtain ⟨⟨s', p', h'⟩, e⟩ := g.itr o s p ho hx
    rw [e]; exact h s' p' h'
  | clo f fv cv first caps h1 h2 _ _ ih1 ih2 => exact .clo f fv cv first caps h1 h2 ih1 ih2
  | agg vs cs h1 _ ih => exact .agg vs cs h1 ih
  | tup vs cs h1 _ ih => exact .tup vs cs h1 ih
  | undef v => exact .undef v

end Go.VM
