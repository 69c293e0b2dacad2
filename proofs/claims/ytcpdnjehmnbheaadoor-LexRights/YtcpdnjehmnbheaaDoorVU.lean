/- A function that is given data alone: its contract over no heap serves over every heap, its result frozen into data. -/
import Derived.Test.YtcpdnjehmnbheaaDoorVS
set_option linter.unusedSimpArgs false
set_option linter.unusedVariables false
set_option linter.unusedSectionVars false
namespace Go.VM
open Go.RowKit (Below)
variable [Glb]

/-- what a result is, once nothing more is written -/
inductive Frz (H : AHeap) : A → A → Prop
  | d (x : D) : Frz H (.d x) (.d x)
  | nils (sz : Nat) (g : Nat → Nat → D) : Frz H .nils (.d (.sl 0 sz g))
  | ref (o off len sz n fz : Nat) (get : Nat → Nat → D) (h : H[o]? = some (.arr n sz get fz)) (e : off + len = n) : Frz H (.ref o off len sz) (.d (.sl len sz fun i j => get (off + i) j))
  | ref0 (o len sz n fz : Nat) (get : Nat → Nat → D) (h : H[o]? = some (.arr n sz get fz)) (e : len = n) : Frz H (.ref o 0 len sz) (.d (.sl len sz get))
  | agg (xs ys : List A) (hl : xs.length = ys.length) (h : ∀ k, k < xs.length → Frz H (xs.getD k .undef) (ys.getD k .undef)) : Frz H (.agg xs) (.agg ys)
  | tup (xs ys : List A) (hl : xs.length = ys.length) (h : ∀ k, k < xs.length → Frz H (xs.getD k .undef) (ys.getD k .undef)) : Frz H (.tup xs) (.tup ys)
  | un (x : A) : Frz H x .undef
  | deq (a : A) (x y : D) (h : Frz H a (.d x)) (e : Deq x y) : Frz H a (.d y)

theorem frzs_nil (H : AHeap) : ∀ k, k < ([] : List A).length → Frz H (([] : List A).getD k .undef) (([] : List A).getD k .undef) := fun k hk => absurd hk (by simp)
theorem frzs_cons {H : AHeap} {x y : A} {xs ys : List A} (h : Frz H x y) (hs : ∀ k, k < xs.length → Frz H (xs.getD k .undef) (ys.getD k .undef)) : ∀ k, k < (x :: xs).length → Frz H ((x :: xs).getD k .undef) ((y :: ys).getD k .undef) := fun k hk => by
  cases k with
  | zero => simpa using h
  | succ k => simpa using hs k (by simpa using hk)
theorem Frz.tup2 {H : AHeap} {a b a' b' : A} (h1 : Frz H a a') (h2 : Frz H b b') : Frz H (.tup [a, b]) (.tup [a', b']) := .tup _ _ rfl (frzs_cons h1 (frzs_cons h2 (frzs_nil H)))
theorem Frz.tup3 {H : AHeap} {a b c a' b' c' : A} (h1 : Frz H a a') (h2 : Frz H b b') (h3 : Frz H c c') : Frz H (.tup [a, b, c]) (.tup [a', b', c']) := .tup _ _ rfl (frzs_cons h1 (frzs_cons h2 (frzs_cons h3 (frzs_nil H))))
theorem frzsD (H : AHeap) : ∀ (xs : List D) k, k < (xs.map A.d).length → Frz H ((xs.map A.d).getD k .undef) ((xs.map A.d).getD k .undef)
  | [], k, hk => absurd hk (by simp)
  | x :: r, k, hk => frzs_cons (.d x) (frzsD H r) k hk
theorem Frz.aggD {H : AHeap} (xs : List D) : Frz H (.agg (xs.map A.d)) (.agg (xs.map A.d)) := .agg _ _ rfl (frzsD H xs)

/-- data, or data side by side -/
inductive Pure : A → Prop
  | d (x : D) : Pure (.d x)
  | agg (xs : List A) (h : ∀ k, k < xs.length → Pure (xs.getD k .undef)) : Pure (.agg xs)

def pureB : A → Bool
  | .d _ => true
  | .agg xs => pureBs xs
  | _ => false
where pureBs : List A → Bool
  | [] => true
  | .d _ :: r => pureBs r
  | _ :: _ => false

theorem pureBs_ok : ∀ {xs : List A}, pureB.pureBs xs = true → ∀ k, k < xs.length → Pure (xs.getD k .undef)
  | [], _, k, hk => absurd hk (by simp)
  | .d x :: r, h, k, hk => by
    cases k with
    | zero => exact .d x
    | succ k => simpa using pureBs_ok (xs := r) h k (by simpa using hk)

theorem pureB_ok {x : A} (h : pureB x = true) : Pure x := by
  cases x with
  | d x => exact .d x
  | agg xs => exact .agg xs (pureBs_ok h)
  | _ => cases h

def pureL : List A → Bool
  | [] => true
  | x :: r => pureB x && pureL r

theorem pureL_ok : ∀ {xs : List A}, pureL xs = true → ∀ k, k < xs.length → Pure (xs.getD k .undef)
  | [], _, k, hk => absurd hk (by simp)
  | x :: r, h, k, hk => by
    simp only [pureL, Bool.and_eq_true] at h
    cases k with
    | zero => exact pureB_ok h.1
    | succ k => simpa using pureL_ok h.2 k (by simpa using hk)

theorem Pure.rep {w : World} {I : Nat → Nat → Prop} {ι ι' : Nat → Option Nat} {H H' : AHeap} {x : A} (hx : Pure x) : ∀ {v : Value}, RepA w I ι H v x → RepA w I ι' H' v x := by
  induction hx with
  | d x => intro v h; cases h with | d _ _ h => exact .d v x h
  | agg xs _ ih =>
    intro v h
    cases h with | agg vs _ h1 h2 => exact .agg vs xs h1 fun k hk => ih k hk (h2 k hk)

theorem Frz.rep {lim : Lim} {B : Nat} {w : World} {I I' : Nat → Nat → Prop} {ι ι' : Nat → Option Nat} {H H' : AHeap} (r : Rel B ι I w H) (hi : ∀ b k, I b k → I' b k) (hn : ∀ b k, B ≤ b → b < w.heap.size → I' b k) {x y : A} (f : Frz H x y) : ∀ {v : Value}, RepA w I ι H v x → RepA w I' ι' H' v y := by
  have hs : Same I w w := fun _ _ _ => rfl
  have main : ∀ (v : Value) (o off len sz n fz : Nat) (get g : Nat → Nat → D), H[o]? = some (.arr n sz get fz) → off + len = n → (∀ i j, i < len → g i j = get (off + i) j) → RepA w I ι H v (.ref o off len sz) → RepD w I' v (.sl len sz g) := by
    intro v o off len sz n fz get g h e hg hv
    cases hv with | ref _ _ _ _ _ ho h1 hl =>
    obtain ⟨-, h2⟩ := h1 n sz get fz h rfl
    rcases h2 e with ⟨b, cap, vs, el, fr, e1, rfl, e3, e4, e5⟩ | ⟨e1, rfl, rfl⟩ | ⟨a, rfl, rfl, e3⟩
    · obtain ⟨hfz, hob⟩ := r.obj o _ h
      rcases hob with ⟨b', vs', el', fr', p1, p2, p3, p4, p5, p6⟩ | ⟨p1, p2⟩
      · have hbb : b = b' := by rw [e1] at p1; exact Option.some.inj p1
        subst hbb
        rw [e3] at p3
        cases p3
        have hlt : b < w.heap.size := (Array.getElem?_eq_some_iff.1 e3).1
        refine .sl b (off * sz) len cap sz g (fun i j => vs.getD ((off + i) * sz + j) undef) e5 (fun i j hi' hj => ⟨hn b _ p2 hlt, ?_⟩) (fun i j hi' hj => ?_)
        · have hmul : (off + i) * sz = off * sz + i * sz := Nat.add_mul ..
          have hb : (off + i + 1) * sz ≤ n * sz := Nat.mul_le_mul_right _ (by omega)
          have hb' : (off + i + 1) * sz = (off + i) * sz + sz := Nat.succ_mul ..
          have hlt' : off * sz + (i * sz + j) < vs.size := by omega
          unfold World.cell?
          simp only [e3]
          rw [show (off + i) * sz + j = off * sz + (i * sz + j) by omega]
          simp [Array.getD_eq_getD_getElem?, hlt']
        · rw [hg i j hi']
          exact (p5 (off + i) j (by omega) hj).mono hs hi
      · rw [e1] at p1; cases p1
    · exact .sl0 _ _ _ _
    · exact .sl0 _ _ _ _
  induction f with
  | d x => intro v h; cases h with | d _ _ h => exact .d v x (h.mono hs hi)
  | nils sz g => intro v h; cases h with | nils => exact .d _ _ (.sl0 _ _ _ _)
  | ref o off len sz n fz get h e => intro v hv; exact .d v _ (main v o off len sz n fz get _ h e (fun _ _ _ => rfl) hv)
  | ref0 o len sz n fz get h e => intro v hv; exact .d v _ (main v o 0 len sz n fz get _ h (by omega) (fun i j _ => by rw [Nat.zero_add]) hv)
  | agg xs ys hl _ ih =>
    intro v h
    cases h with | agg vs _ h1 h2 => exact .agg vs ys (by omega) fun k hk => ih k (by omega) (h2 k (by omega))
  | tup xs ys hl _ ih =>
    intro v h
    cases h with | tup vs _ h1 h2 => exact .tup vs ys (by omega) fun k hk => ih k (by omega) (h2 k (by omega))
  | un x => intro v _; exact .undef v
  | deq a x y _ e ih =>
    intro v hv
    cases ih hv with | d _ _ h => exact .d v y (h.deq e)

/-- THE FRAME. -/
theorem VCalls.pure {P : Program} {K : FuncId} {args : List A} {R : A → AHeap → Prop} (ha : pureL args = true) (h : VCalls P K args [] R) {R' : A → Prop} (hr : ∀ r H, R r H → ∃ y, Frz H r y ∧ R' y) (H : AHeap) : VCalls P K args H (fun r H' => H' = H ∧ R' r) := by
  refine Ops.exists_one.elim fun inst => ?_
  intro lim B ι I w vs hrel hargs
  have r0 : @Rel _ ⟨I⟩ w.heap.size (fun _ => none) I w [] := @Rel.mk _ ⟨I⟩ _ _ _ _ _ (Nat.le_refl _) hrel.imm (fun b k _ h => h) hrel.glob (fun o x hx => by simp at hx) (fun o o' x x' b hx => by simp at hx)
  refine (h ⟨I⟩ w.heap.size (fun _ => none) I w vs r0 ⟨hargs.1, fun k hk => (pureL_ok ha k hk).rep (hargs.2 k hk)⟩).mono ?_
  rintro e w' ⟨v, r, H', ι', I', rfl, hR, hrel', hrep, hkeep⟩
  obtain ⟨y, hf, hy⟩ := hr r H' hR
  have hlow : ∀ b k, b < w.heap.size → I' b k → I b k := @Rel.low _ ⟨I⟩ _ _ _ _ _ hrel'
  have himm := @Rel.imm _ ⟨I⟩ _ _ _ _ _ hrel'
  let J : Nat → Nat → Prop := fun b k => I b k ∨ I' b k ∨ (w.heap.size ≤ b ∧ b < w'.heap.size)
  have hblk : ∀ b, b < w.heap.size → w'.heap[b]? = w.heap[b]? := hkeep.below.block
  have g : Goes w w' I J ι ι H H := by
    refine ⟨fun b k hk => ?_, fun b k h => .inl h, Nat.le_refl _, fun o off len sz v ho hx n sz' get fz h1 h2 => ⟨(hx n sz' get fz h1 h2).1, fun e => ?_⟩, fun o cs _ h => ⟨⟨_, h⟩, rfl⟩, fun o n sz get fz _ h => ⟨_, _, _, h, Nat.le_refl _, fun _ => rfl⟩, fun o s p _ h => ⟨⟨_, _, h⟩, rfl⟩⟩
    · unfold World.cell?
      rw [hblk b (hrel.imm b k hk)]
    · rcases (hx n sz' get fz h1 h2).2 e with ⟨b, cap, vs, el, fr, p1, p2, p3, p4⟩ | h | h
      · exact .inl ⟨b, cap, vs, el, fr, p1, p2, (hblk b (Array.getElem?_eq_some_iff.1 p3).1).trans p3, p4⟩
      · exact .inr (.inl h)
      · exact .inr (.inr h)
  have hbelow : Below B w w' := ⟨hkeep.below.os, hkeep.below.tape, hkeep.below.output, hkeep.below.size, fun k hk => hblk k (Nat.lt_of_lt_of_le hk hrel.base)⟩
  have hrel2 : @Rel _ lim B ι J w' H := by
    refine @Rel.mk _ lim _ _ _ _ _ (Nat.le_trans hrel.base hbelow.size) ?_ ?_ (g.glob hrel.glob) ?_ hrel.inj
    · rintro b k (h | h | h)
      · exact Nat.lt_of_lt_of_le (hrel.imm b k h) hbelow.size
      · exact himm b k h
      · exact h.2
    · rintro b k hb (h | h | h)
      · exact hrel.low b k hb h
      · exact hrel.low b k hb (hlow b k (Nat.lt_of_lt_of_le hb hrel.base) h)
      · have := hrel.base; omega
    · intro o x hx
      by_cases hl : x.live
      · refine (hrel.obj o x hx).keep g rfl (fun b hb => hblk b ((hrel.obj o x hx).lt hl hb).2) (fun b k hb hk => ?_)
        have hlt := ((hrel.obj o x hx).lt hl hb).2
        rcases hk with hk | hk | hk
        · exact hk
        · exact hlow b k hlt hk
        · omega
      · cases x <;> first | trivial | exact (hl trivial).elim
  exact ⟨v, y, H, ι, _, rfl, ⟨rfl, hy⟩, hrel2, @Frz.rep _ ⟨I⟩ _ _ _ J _ ι _ H hrel' (fun b k h => .inr (.inl h)) (fun b k h1 h2 => .inr (.inr ⟨h1, h2⟩)) _ _ hf _ hrep, hbelow, Nat.le_refl _, fun v x hx => hx.goes g⟩

/-- the world goes on in new blocks alone -/
theorem Rel.grow {lim : Lim} {B : Nat} {ι : Nat → Option Nat} {I J : Nat → Nat → Prop} {w w' : World} {H : AHeap} (r : Rel B ι I w H) (hb : Below w.heap.size w w') (h1 : ∀ b k, I b k → J b k) (h2 : ∀ b k, b < w.heap.size → J b k → I b k) (h3 : ∀ b k, J b k → b < w'.heap.size) :
    Rel B ι J w' H ∧ Keep B w I ι H w' J ι H := by
  refine Ops.exists_one.elim fun inst => ?_
  have hblk : ∀ b, b < w.heap.size → w'.heap[b]? = w.heap[b]? := hb.block
  have g : Goes w w' I J ι ι H H := by
    refine ⟨fun b k hk => ?_, h1, Nat.le_refl _, fun o off len sz v ho hx n sz' get fz h1 h2 => ⟨(hx n sz' get fz h1 h2).1, fun e => ?_⟩, fun o cs _ h => ⟨⟨_, h⟩, rfl⟩, fun o n sz get fz _ h => ⟨_, _, _, h, Nat.le_refl _, fun _ => rfl⟩, fun o s p _ h => ⟨⟨_, _, h⟩, rfl⟩⟩
    · unfold World.cell?
      rw [hblk b (r.imm b k hk)]
    · rcases (hx n sz' get fz h1 h2).2 e with ⟨b, cap, vs, el, fr, p1, p2, p3, p4⟩ | h | h
      · exact .inl ⟨b, cap, vs, el, fr, p1, p2, (hblk b (Array.getElem?_eq_some_iff.1 p3).1).trans p3, p4⟩
      · exact .inr (.inl h)
      · exact .inr (.inr h)
  have hbelow : Below B w w' := ⟨hb.os, hb.tape, hb.output, hb.size, fun k hk => hblk k (Nat.lt_of_lt_of_le hk r.base)⟩
  refine ⟨⟨Nat.le_trans r.base hbelow.size, h3, fun b k hb hk => r.low b k hb (h2 b k (Nat.lt_of_lt_of_le hb r.base) hk), g.glob r.glob, ?_, r.inj⟩, ⟨hbelow, Nat.le_refl _, fun v x hx => hx.goes g⟩⟩
  intro o x hx
  by_cases hl : x.live
  · exact (r.obj o x hx).keep g rfl (fun b hb => hblk b ((r.obj o x hx).lt hl hb).2) (fun b k hb hk => h2 b k ((r.obj o x hx).lt hl hb).2 hk)
  · cases x <;> first | trivial | exact (hl trivial).elim

/-- THE CONTRACT of a function of data: over every heap, it returns what S says. -/
def VFun (P : Program) (K : FuncId) (args : List A) (S : A → Prop) : Prop := ∀ H, VCalls P K args H (fun r H' => H' = H ∧ S r)

theorem VFun.call {P : Unit → Program} {K : FuncId} {args : List A} {S : A → Prop} {H : AHeap} {R : A → AHeap → Prop} (h : VFun (P ()) K args S) (hr : ∀ r, S r → R r H) : CallW P K args H R :=
  ⟨(h H).mono fun r H' ⟨e, hs⟩ => e ▸ hr r hs⟩

theorem VFun.mono {P : Program} {K : FuncId} {args : List A} {S S' : A → Prop} (h : VFun P K args S) (hr : ∀ r, S r → S' r) : VFun P K args S' :=
  fun H => (h H).mono fun _ _ ⟨e, hs⟩ => ⟨e, hr _ hs⟩

theorem CallW.of {P : Unit → Program} {K : FuncId} {args : List A} {H : AHeap} {R R' : A → AHeap → Prop} (h : VCalls (P ()) K args H R) (hr : ∀ r H', R r H' → R' r H') : CallW P K args H R' := ⟨h.mono hr⟩

/-- out of the evaluated body -/
theorem vfun {Pf : Unit → Program} {Tf : ∀ [Ops], Unit → Tab} (hT : ∀ [Ops], TabOk (Pf ()) (Tf ())) {K : FuncId} {fn : Func} (hf : (Pf ()).funcs[K]? = some fn) (hb : fn.body.isSome = true) {args : List A} (ha : pureL args = true) {S : A → Prop} (hl : lenL args ≤ fn.ntmps)
    (h : ∀ [Ops] (R : A → AHeap → Prop), (∀ r H y, Frz H r y → S y → R r H) → W Pf Tf 0 (bodyOf fn) (retQ Tf fn.results.toList R) ⟨slots args fn.ntmps, []⟩) : VFun (Pf ()) K args S :=
  fun H => VCalls.pure ha (VCalls_of_W (R := fun r H => ∃ y, Frz H r y ∧ S y) hT hf hb hl fun {_} n R hn hR => by
    cases hn
    exact h R fun r H y h1 h2 => hR r H ⟨y, h1, h2⟩) (fun r H h => h) H

end Go.VM
