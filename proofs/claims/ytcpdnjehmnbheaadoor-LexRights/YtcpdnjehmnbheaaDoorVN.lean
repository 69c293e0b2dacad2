/- The logic of abstract states: contracts of functions, and the weakest precondition of a code, both sound for the model. -/
import Derived.Test.YtcpdnjehmnbheaaDoorVM1
set_option linter.unusedSimpArgs false
set_option linter.unusedVariables false
set_option linter.unusedSectionVars false
namespace Go.VM
open Ops
variable [Ops] [Glb] [Lim]
open Go.RowKit (Below)

/-- What a state keeps of the one in which the function was entered. -/
structure Keep (B : Nat) (w0 : World) (I0 : Nat → Nat → Prop) (ι0 : Nat → Option Nat) (H0 : AHeap) (w : World) (I : Nat → Nat → Prop) (ι : Nat → Option Nat) (H : AHeap) : Prop where
  below : Below B w0 w
  len : H0.length ≤ H.length
  rep : ∀ v x, RepA w0 I0 ι0 H0 v x → RepA w I ι H v x

/-- lists of values and what they stand for -/
def RepL (w : World) (I : Nat → Nat → Prop) (ι : Nat → Option Nat) (H : AHeap) (vs : List Value) (xs : List A) : Prop :=
  vs.length = xs.length ∧ ∀ k, k < xs.length → RepA w I ι H (vs.getD k undef) (xs.getD k .undef)

/-- THE CONTRACT of function K: called with what the abstract arguments stand for, in whatever world, it returns what some r stands for, in a heap H', and R r H'. -/
def VCalls (P : Program) (K : FuncId) (args : List A) (H : AHeap) (R : A → AHeap → Prop) : Prop :=
  ∀ (lim : Lim) B ι I w vs, @Rel _ lim B ι I w H → RepL w I ι H vs args → Calls P K vs.toArray w (fun e w' =>
    ∃ v r H' ι' I', e = .returned v ∧ R r H' ∧ @Rel _ lim B ι' I' w' H' ∧ RepA w' I' ι' H' v r ∧ Keep B w I ι H w' I' ι' H')

omit [Ops] [Lim] in
theorem VCalls.mono {P : Program} {K : FuncId} {args : List A} {H : AHeap} {R R' : A → AHeap → Prop} (h : VCalls P K args H R) (hr : ∀ r H', R r H' → R' r H') : VCalls P K args H R' :=
  fun lim B ι I w vs hrel hargs => (h lim B ι I w vs hrel hargs).mono fun _ _ ⟨v, r, H', ι', I', h1, h2, h3⟩ => ⟨v, r, H', ι', I', h1, hr _ _ h2, h3⟩

structure Entry where
  B : Nat
  w : World
  I : Nat → Nat → Prop
  ι : Nat → Option Nat
  H : AHeap

/-- a frame and a world that an abstract state stands for -/
structure Inv (E : Entry) (ι : Nat → Option Nat) (I : Nat → Nat → Prop) (a : Act) (w : World) (σ : St) : Prop where
  defers : a.defers = []
  tm : RepT w I ι σ.hp a σ.tm
  rel : Rel E.B ι I w σ.hp
  keep : Keep E.B E.w E.I E.ι E.H w I ι σ.hp

inductive ExRel : Exit → Ex → Prop
  | normal : ExRel .normal .normal
  | exit (id : Nat) : ExRel (.exit id) (.exit id)
  | ret : ExRel .ret .ret

def Post (E : Entry) (Q : Ex → St → Prop) : Exit → Act → World → Prop := fun e a w => ∃ ex σ ι I, ExRel e ex ∧ Q ex σ ∧ Inv E ι I a w σ

/-- THE LOGIC: from each frame and world that σ stands for, code c comes to an end that Q holds of. n: how many objects there were when the function was entered. -/
def VW (P : Program) (n : Nat) (c : Code) (Q : Ex → St → Prop) (σ : St) : Prop :=
  ∀ E ι I a w, E.H.length = n → Inv E ι I a w σ → c.wp P (Post E Q) a w

variable {P : Program} {T : Tab} {n : Nat}

theorem VW.mono {c : Code} {Q Q' : Ex → St → Prop} {σ : St} (h : VW P n c Q σ) (hq : ∀ e s, Q e s → Q' e s) : VW P n c Q' σ :=
  fun E ι I a w hn hi => wp_mono (h E ι I a w hn hi) fun _ _ _ ⟨ex, s, ι', I', h1, h2, h3⟩ => ⟨ex, s, ι', I', h1, hq _ _ h2, h3⟩

theorem VW_skip {Q : Ex → St → Prop} {σ : St} (h : Q .normal σ) : VW P n .skip Q σ :=
  fun E ι I a w _ hi => wp_skip ⟨.normal, σ, ι, I, .normal, h, hi⟩

theorem VW_exit {Q : Ex → St → Prop} {σ : St} {id : Nat} (h : Q (.exit id) σ) : VW P n (.exit id) Q σ :=
  fun E ι I a w _ hi => wp_exit ⟨.exit id, σ, ι, I, .exit id, h, hi⟩

theorem VW_ret {Q : Ex → St → Prop} {σ : St} (h : Q .ret σ) : VW P n .ret Q σ :=
  fun E ι I a w _ hi => wp_ret ⟨.ret, σ, ι, I, .ret, h, hi⟩

def seqQ (next : St → Prop) (Q : Ex → St → Prop) : Ex → St → Prop
  | .normal, σ => next σ
  | e, σ => Q e σ

theorem VW_seq {x y : Code} {Q : Ex → St → Prop} {σ : St} (h : VW P n x (seqQ (VW P n y Q) Q) σ) : VW P n (.seq x y) Q σ := by
  intro E ι I a w hn hi
  refine wp_seq (wp_mono (h E ι I a w hn hi) ?_)
  rintro e a' w' ⟨ex, s, ι', I', h1, h2, h3⟩
  cases h1 with
  | normal => exact h2 E ι' I' a' w' hn h3
  | exit id => exact ⟨_, s, ι', I', .exit id, h2, h3⟩
  | ret => exact ⟨_, s, ι', I', .ret, h2, h3⟩

def blockQ (id : Nat) (Q : Ex → St → Prop) : Ex → St → Prop
  | .exit i, σ => match Nat.beq i id with | true => Q .normal σ | false => Q (.exit i) σ
  | e, σ => Q e σ

theorem VW_block {c : Code} {id : Nat} {Q : Ex → St → Prop} {σ : St} (h : VW P n c (blockQ id Q) σ) : VW P n (.block id c) Q σ := by
  intro E ι I a w hn hi
  refine wp_block (wp_mono (h E ι I a w hn hi) ?_)
  rintro e a' w' ⟨ex, s, ι', I', h1, h2, h3⟩
  cases h1 with
  | normal => exact ⟨_, s, ι', I', .normal, h2, h3⟩
  | exit i =>
    simp only [Exit.inBlock]
    simp only [blockQ] at h2
    by_cases e : i = id
    · subst e
      rw [if_pos rfl]
      rw [show Nat.beq i i = true from Nat.beq_refl i] at h2
      exact ⟨_, s, ι', I', .normal, h2, h3⟩
    · rw [if_neg e]
      rw [show Nat.beq i id = false from by cases hb : Nat.beq i id with | false => rfl | true => exact absurd (Nat.eq_of_beq_eq_true hb) e] at h2
      exact ⟨_, s, ι', I', .exit i, h2, h3⟩
  | ret => exact ⟨_, s, ι', I', .ret, h2, h3⟩

theorem VW_cond {c : Operand} {x y : Code} {Q : Ex → St → Prop} {σ : St} {t : Bool} (he : ev σ.tm c = .d (.bool t)) (ht : t = true → VW P n x Q σ) (hf : t = false → VW P n y Q σ) : VW P n (.cond c x y) Q σ := by
  intro E ι I a w hn hi
  have hc := ev_rep hi.tm c
  rw [he] at hc
  exact wp_cond_split (rep_bool hc) (fun h => ht h E ι I a w hn hi) (fun h => hf h E ι I a w hn hi)

/-! ### Forgetting -/
def leL : A → A → Prop
  | .undef, _ => True
  | .d x, y => ∃ z, y = .d z ∧ Deq z x
  | x, y => x = y

def leLs : List A → List A → Prop
  | [], [] => True
  | x :: xs, y :: ys => leL x y ∧ leLs xs ys
  | _, _ => False

def leA : A → A → Prop
  | .undef, _ => True
  | .d x, y => ∃ z, y = .d z ∧ Deq z x
  | .agg xs, y => ∃ ys, y = .agg ys ∧ leLs xs ys
  | .tup xs, y => ∃ ys, y = .tup ys ∧ leLs xs ys
  | x, y => x = y

def leAs : List A → List A → Prop
  | [], [] => True
  | x :: xs, y :: ys => leA x y ∧ leAs xs ys
  | _, _ => False

def leO : AObj → AObj → Prop
  | .dead, _ => True
  | .box xs, y => ∃ ys, y = .box ys ∧ leLs xs ys
  | .arr m sz g fz, y => ∃ g' fz', y = .arr m sz g' fz' ∧ fz' ≤ fz ∧ fz ≤ m ∧ ∀ i j, i < m → j < sz → Deq (g' i j) (g i j)
  | .iter s p, y => y = .iter s p

def leH : AHeap → AHeap → Prop
  | [], _ => True
  | x :: xs, y :: ys => leO x y ∧ leH xs ys
  | _ :: _, [] => False

/-- σ' knows no more than σ; it may have lost objects that were made since the entry. -/
def leS (n : Nat) (σ' σ : St) : Prop := leAs σ'.tm σ.tm ∧ leH σ'.hp σ.hp ∧ n ≤ σ'.hp.length

theorem leH_get : ∀ {H' H : AHeap}, leH H' H → H'.length ≤ H.length ∧ ∀ (o : Nat) (x : AObj), H'[o]? = some x → ∃ y, H[o]? = some y ∧ leO x y
  | [], _, _ => ⟨Nat.zero_le _, fun o x h => by simp at h⟩
  | x :: xs, y :: ys, h => by
    obtain ⟨h1, h2⟩ := h
    obtain ⟨h3, h4⟩ := leH_get h2
    refine ⟨by simpa using h3, fun o z hz => ?_⟩
    cases o with
    | zero => simp at hz; subst hz; exact ⟨y, rfl, h1⟩
    | succ o => simpa using h4 o z (by simpa using hz)

theorem leAs_get : ∀ {xs ys : List A}, leAs xs ys → xs.length = ys.length ∧ ∀ k, k < xs.length → leA (xs.getD k .undef) (ys.getD k .undef)
  | [], [], _ => ⟨rfl, fun k h => by simp at h⟩
  | x :: xs, y :: ys, h => by
    obtain ⟨h1, h2⟩ := h
    obtain ⟨h3, h4⟩ := leAs_get h2
    refine ⟨by simp [h3], fun k hk => ?_⟩
    cases k with
    | zero => simpa using h1
    | succ k => simpa using h4 k (by simpa using hk)

theorem leLs_get : ∀ {xs ys : List A}, leLs xs ys → xs.length = ys.length ∧ ∀ k, k < xs.length → leL (xs.getD k .undef) (ys.getD k .undef)
  | [], [], _ => ⟨rfl, fun k h => by simp at h⟩
  | x :: xs, y :: ys, h => by
    obtain ⟨h1, h2⟩ := h
    obtain ⟨h3, h4⟩ := leLs_get h2
    refine ⟨by simp [h3], fun k hk => ?_⟩
    cases k with
    | zero => simpa using h1
    | succ k => simpa using h4 k (by simpa using hk)

/-- all objects that a value speaks of are below n -/
inductive Bel (n : Nat) : A → Prop
  | d (x : D) : Bel n (.d x)
  | nils : Bel n .nils
  | ref (o off len sz : Nat) (h : o < n) : Bel n (.ref o off len sz)
  | ptr (o off : Nat) (h : o < n) : Bel n (.ptr o off)
  | eptr (o i j len : Nat) (h : o < n) : Bel n (.eptr o i j len)
  | iptr (g : Nat → Nat → D) (i j sz : Nat) : Bel n (.iptr g i j sz)
  | itr (o : Nat) (h : o < n) : Bel n (.itr o)
  | clo (f : FuncId) (xs ys : List A) (h1 : ∀ k, k < xs.length → Bel n (xs.getD k .undef)) (h2 : ∀ k, k < ys.length → Bel n (ys.getD k .undef)) : Bel n (.clo f xs ys)
  | agg (xs : List A) (h1 : ∀ k, k < xs.length → Bel n (xs.getD k .undef)) : Bel n (.agg xs)
  | tup (xs : List A) (h1 : ∀ k, k < xs.length → Bel n (xs.getD k .undef)) : Bel n (.tup xs)
  | undef : Bel n .undef

section
variable {w : World} {I : Nat → Nat → Prop} {ι : Nat → Option Nat} {H H' : AHeap}

theorem RepA.bel {v : Value} {x : A} (h : RepA w I ι H v x) : Bel H.length x := by
  induction h with
  | d => exact .d _
  | nils => exact .nils
  | ref _ _ _ _ _ ho => exact .ref _ _ _ _ ho
  | ptr _ _ _ ho => exact .ptr _ _ ho
  | eptr _ _ _ _ _ ho => exact .eptr _ _ _ _ ho
  | iptr => exact .iptr _ _ _ _
  | itr _ _ ho => exact .itr _ ho
  | clo _ _ _ _ _ _ _ _ _ ih1 ih2 => exact .clo _ _ _ ih1 ih2
  | agg _ _ _ _ ih => exact .agg _ ih
  | tup _ _ _ _ ih => exact .tup _ ih
  | undef => exact .undef

/-- a value over fewer objects, of which less is known -/
theorem RepA.less (hH : leH H' H) {v : Value} {x : A} (h : RepA w I ι H v x) : Bel H'.length x → RepA w I ι H' v x := by
  obtain ⟨hl, hg⟩ := leH_get hH
  induction h with
  | d v x h => exact fun _ => .d v x h
  | nils => exact fun _ => .nils
  | ref v o off len sz ho h hlen =>
    intro hb
    cases hb with | ref _ _ _ _ hb =>
    refine .ref v o off len sz hb (fun m sz' g fz hx hs => ?_) hlen
    obtain ⟨y, hy, hle⟩ := hg o _ hx
    obtain ⟨g', fz', rfl, -⟩ := hle
    exact h m sz' g' fz' hy hs
  | ptr v o off ho h hv =>
    intro hb
    cases hb with | ptr _ _ hb =>
    refine .ptr v o off hb (fun cs hx => ?_) hv
    obtain ⟨y, hy, hle⟩ := hg o _ hx
    obtain ⟨ys, rfl, -⟩ := hle
    exact h ys hy
  | eptr v o i j len ho h hv =>
    intro hb
    cases hb with | eptr _ _ _ _ hb =>
    refine .eptr v o i j len hb (fun m sz g fz hx => ?_) hv
    obtain ⟨y, hy, hle⟩ := hg o _ hx
    obtain ⟨g', fz', rfl, -⟩ := hle
    exact h m sz g' fz' hy
  | iptr b o g i j sz vals hc hr => exact fun _ => .iptr b o g i j sz vals hc hr
  | itr v o ho h hv =>
    intro hb
    cases hb with | itr _ hb =>
    refine .itr v o hb (fun s p hx => ?_) hv
    obtain ⟨y, hy, hle⟩ := hg o _ hx
    cases hle
    exact h s p hy
  | clo f fv cv xs ys h1 h2 _ _ ih1 ih2 =>
    intro hb
    cases hb with | clo _ _ _ b1 b2 =>
    exact .clo f fv cv xs ys h1 h2 (fun k hk => ih1 k hk (b1 k hk)) (fun k hk => ih2 k hk (b2 k hk))
  | agg vs cs h1 _ ih =>
    intro hb
    cases hb with | agg _ b1 =>
    exact .agg vs cs h1 (fun k hk => ih k hk (b1 k hk))
  | tup vs cs h1 _ ih =>
    intro hb
    cases hb with | tup _ b1 =>
    exact .tup vs cs h1 (fun k hk => ih k hk (b1 k hk))
  | undef v => exact fun _ => .undef v

theorem leL_rep {v : Value} {x y : A} (h : RepA w I ι H v y) (hle : leL x y) : RepA w I ι H v x := by
  cases x with
  | undef => exact .undef v
  | d x =>
    obtain ⟨z, rfl, hz⟩ := hle
    cases h with | d _ _ h => exact .d _ _ (h.deq hz)
  | _ => cases hle; exact h

theorem leA_rep {v : Value} {x y : A} (h : RepA w I ι H v y) (hle : leA x y) : RepA w I ι H v x := by
  cases x with
  | undef => exact .undef v
  | d x =>
    obtain ⟨z, rfl, hz⟩ := hle
    cases h with | d _ _ h => exact .d _ _ (h.deq hz)
  | agg xs =>
    obtain ⟨ys, rfl, hle⟩ := hle
    obtain ⟨l1, l2⟩ := leLs_get hle
    cases h with | agg vs _ h1 h2 => exact .agg vs xs (by omega) (fun k hk => leL_rep (h2 k (by omega)) (l2 k hk))
  | tup xs =>
    obtain ⟨ys, rfl, hle⟩ := hle
    obtain ⟨l1, l2⟩ := leLs_get hle
    cases h with | tup vs _ h1 h2 => exact .tup vs xs (by omega) (fun k hk => leL_rep (h2 k (by omega)) (l2 k hk))
  | _ => cases hle; exact h
end

/-- the objects of which the weaker state still speaks speak of no lost ones: asked where they are boxes -/
def BelO (n : Nat) : AObj → Prop
  | .box cs => ∀ k, k < cs.length → Bel n (cs.getD k .undef)
  | _ => True

def BelS (σ : St) : Prop := (∀ k, k < σ.tm.length → Bel σ.hp.length (σ.tm.getD k .undef)) ∧ ∀ (o : Nat) (x : AObj), σ.hp[o]? = some x → BelO σ.hp.length x

theorem Rel.less {B : Nat} {ι : Nat → Option Nat} {I : Nat → Nat → Prop} {w : World} {H H' : AHeap} (r : Rel B ι I w H) (hH : leH H' H) (hb : ∀ (o : Nat) (x : AObj), H'[o]? = some x → BelO H'.length x) : Rel B ι I w H' := by
  obtain ⟨hl, hg⟩ := leH_get hH
  refine ⟨r.base, r.imm, r.low, r.glob, fun o x hx => ?_, fun o o' x x' b hx hx' lx lx' e e' => ?_⟩
  · obtain ⟨y, hy, hle⟩ := hg o x hx
    have hob := r.obj o y hy
    cases x with
    | dead => trivial
    | iter s p => cases hle; exact hob
    | box cs =>
      obtain ⟨ys, rfl, hls⟩ := hle
      obtain ⟨l1, l2⟩ := leLs_get hls
      obtain ⟨b, vs, el, fr, e1, e2, e3, e4, e5, e6⟩ := hob
      refine ⟨b, vs, el, fr, e1, e2, e3, by omega, fun k hk => ?_, e6⟩
      exact (leL_rep (e5 k (by omega)) (l2 k hk)).less hH (hb o _ hx k hk)
    | arr m sz g fz =>
      obtain ⟨g', fz', rfl, h1, h2, h3⟩ := hle
      obtain ⟨hfz, hob⟩ := hob
      refine ⟨h2, ?_⟩
      rcases hob with ⟨b, vs, el, fr, e1, e2, e3, e4, e5, e6⟩ | h
      · have : fz' * sz ≤ fz * sz := Nat.mul_le_mul_right _ h1
        exact .inl ⟨b, vs, el, fr, e1, e2, e3, e4, fun i j hi hj => (e5 i j hi hj).deq (h3 i j hi hj), fun k hk => e6.1 k (by omega), fun k hk => e6.2 k (by omega)⟩
      · exact .inr h
  · obtain ⟨y, hy, hle⟩ := hg o x hx
    obtain ⟨y', hy', hle'⟩ := hg o' x' hx'
    have lv : ∀ {x y : AObj}, x.live → leO x y → y.live := fun {x y} hx hle => by
      cases x with
      | dead => exact hx.elim
      | iter s p => cases hle; trivial
      | box cs => obtain ⟨_, rfl, _⟩ := hle; trivial
      | arr m sz g fz => obtain ⟨_, _, rfl, _⟩ := hle; trivial
    exact r.inj o o' y y' b hy hy' (lv lx hle) (lv lx' hle') e e'

theorem Inv.less {E : Entry} {ι : Nat → Option Nat} {I : Nat → Nat → Prop} {a : Act} {w : World} {σ σ' : St} (h : Inv E ι I a w σ) (hle : leS E.H.length σ' σ) (hb : BelS σ') : Inv E ι I a w σ' := by
  obtain ⟨h1, h2, h3⟩ := hle
  obtain ⟨l1, l2⟩ := leAs_get h1
  refine ⟨h.defers, ⟨h.tm.1.trans l1.symm, fun t ht => ?_⟩, h.rel.less h2 hb.2, ⟨h.keep.below, h3, fun v x hx => ?_⟩⟩
  · exact RepA.less h2 (leA_rep (h.tm.2 t (by omega)) (l2 t ht)) (hb.1 t ht)
  · refine (h.keep.rep v x hx).less h2 ?_
    have : ∀ {n m : Nat} {x : A}, n ≤ m → Bel n x → Bel m x := fun {n m x} hnm hx => by
      induction hx with
      | d => exact .d _
      | nils => exact .nils
      | ref _ _ _ _ h => exact .ref _ _ _ _ (by omega)
      | ptr _ _ h => exact .ptr _ _ (by omega)
      | eptr _ _ _ _ h => exact .eptr _ _ _ _ (by omega)
      | iptr => exact .iptr _ _ _ _
      | itr _ h => exact .itr _ (by omega)
      | clo _ _ _ _ _ ih1 ih2 => exact .clo _ _ _ ih1 ih2
      | agg _ _ ih => exact .agg _ ih
      | tup _ _ ih => exact .tup _ ih
      | undef => exact .undef
    exact this h3 hx.bel

theorem VW_less {c : Code} {Q : Ex → St → Prop} {σ σ' : St} (hle : leS n σ' σ) (hb : BelS σ') (h : VW P n c Q σ') : VW P n c Q σ :=
  fun E ι I a w hn hi => h E ι I a w hn (hi.less (by rw [hn]; exact hle) hb)

/-- THE LOOP. -/
theorem VW_loop {c : Code} {Q : Ex → St → Prop} {σ : St} (J : Nat → St → Prop) (k : Nat) (h0 : ∃ s, leS n s σ ∧ BelS s ∧ J k s)
    (round : ∀ k s, J k s → VW P n c (seqQ (fun s' => ∃ k' s'', k' < k ∧ leS n s'' s' ∧ BelS s'' ∧ J k' s'') Q) s) : VW P n (.loop c) Q σ := by
  intro E ι I a w hn hi
  refine wp_loop_ghost (fun k a w => ∃ s ι I, J k s ∧ Inv E ι I a w s) k ?_ ?_
  · obtain ⟨s, h1, h2, h3⟩ := h0
    exact ⟨s, ι, I, h3, hi.less (by rw [hn]; exact h1) h2⟩
  · rintro k a w ⟨s, ι, I, hJ, hi⟩
    refine wp_mono (round k s hJ E ι I a w hn hi) ?_
    rintro e a' w' ⟨ex, s', ι', I', h1, h2, h3⟩
    cases h1 with
    | normal =>
      obtain ⟨k', s'', hk, hle, hb, hJ'⟩ := h2
      exact ⟨k', hk, s'', ι', I', hJ', h3.less (by rw [hn]; exact hle) hb⟩
    | exit id => exact ⟨_, s', ι', I', .exit id, h2, h3⟩
    | ret => exact ⟨_, s', ι', I', .ret, h2, h3⟩

end Go.VM
