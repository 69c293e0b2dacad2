/- Part of the proof: VN, VQ, VR, VO, VS, VX. -/
import Derived.Test.YtjfkhhenccochaaDoorGV2
/- The logic of abstract states: contracts of functions, and the weakest precondition of a code, both sound for the model. -/
set_option linter.unusedSimpArgs false
set_option linter.unusedVariables false
set_option linter.unusedSectionVars false
namespace Go.VM
open Ops
variable [Ops] [Glb] [Lim]

/-- What a state keeps of the one in which the function was entered. -/
structure Keep (B : Gd) (w0 : World) (I0 : Nat → Nat → Prop) (ι0 : Nat → Option Nat) (H0 : AHeap) (w : World) (I : Nat → Nat → Prop) (ι : Nat → Option Nat) (H : AHeap) : Prop where
  below : Below B w0 w
  same : Same I0 w0 w
  imm : ∀ b k, I0 b k → I b k
  len : H0.length ≤ H.length
  rep : ∀ v x, RepA w0 I0 ι0 H0 v x → RepA w I ι H v x

/-- lists of values and what they stand for -/
def RepL (w : World) (I : Nat → Nat → Prop) (ι : Nat → Option Nat) (H : AHeap) (vs : List Value) (xs : List A) : Prop :=
  vs.length = xs.length ∧ ∀ k, k < xs.length → RepA w I ι H (vs.getD k undef) (xs.getD k .undef)

/-- THE CONTRACT of function K: called with what the abstract arguments stand for, in whatever world, it returns what some r stands for, in a heap H', and R r H'. -/
def VCalls (P : Program) (K : FuncId) (args : List A) (H : AHeap) (R : A → AHeap → Prop) : Prop :=
  ∀ (lim : Lim) B ι I w vs, @Rel _ lim B ι I w H → RepL w I ι H vs args → Calls P K vs.toArray w (fun e w' =>
    ∃ v r H' ι' I', e = .returned v ∧ R r H' ∧ @Rel _ lim B ι' I' w' H' ∧ RepA w' I' ι' H' v r ∧ Keep B w I ι H w' I' ι' H')

omit [Ops] [Lim] in
theorem VCalls.mono {P : Program} {K : FuncId} {args : List A} {H : AHeap} {R R' : A → AHeap → Prop} (h : VCalls P K args H R) (hr : ∀ r H', R r H' → R' r H') : VCalls P K args H R' :=
  fun lim B ι I w vs hrel hargs => (h lim B ι I w vs hrel hargs).mono fun _ _ ⟨v, r, H', ι', I', h1, h2, h3⟩ => ⟨v, r, H', ι', I', h1, hr _ _ h2, h3⟩

structure Entry where
  B : Gd
  w : World
  I : Nat → Nat → Prop
  ι : Nat → Option Nat
  H : AHeap

/-- a frame and a world that an abstract state stands for -/
structure Inv (E : Entry) (ι : Nat → Option Nat) (I : Nat → Nat → Prop) (a : Act) (w : World) (σ : St) : Prop where
  defers : a.defers = []
  tm : RepT w I ι σ.hp a σ.tm
  rel : Rel E.B ι I w σ.hp
  keep : Keep E.B E.w E.I E.ι E.H w I ι σ.hp

inductive ExRel : Exit → Ex → Prop
  | normal : ExRel .normal .normal
  | exit (id : Nat) : ExRel (.exit id) (.exit id)
  | ret : ExRel .ret .ret

def Post (E : Entry) (Q : Ex → St → Prop) : Exit → Act → World → Prop := fun e a w => ∃ ex σ ι I, ExRel e ex ∧ Q ex σ ∧ Inv E ι I a w σ

/-- THE LOGIC: from each frame and world that σ stands for, code c comes to an end that Q holds of. n: how many objects there were when the function was entered. -/
def VW (P : Program) (n : Nat) (c : Code) (Q : Ex → St → Prop) (σ : St) : Prop :=
  ∀ E ι I a w, E.H.length = n → Inv E ι I a w σ → c.wp P (Post E Q) a w

variable {P : Program} {T : Tab} {n : Nat}

theorem VW.mono {c : Code} {Q Q' : Ex → St → Prop} {σ : St} (h : VW P n c Q σ) (hq : ∀ e s, Q e s → Q' e s) : VW P n c Q' σ :=
  fun E ι I a w hn hi => wp_mono (h E ι I a w hn hi) fun _ _ _ ⟨ex, s, ι', I', h1, h2, h3⟩ => ⟨ex, s, ι', I', h1, hq _ _ h2, h3⟩

theorem VW_skip {Q : Ex → St → Prop} {σ : St} (h : Q .normal σ) : VW P n .skip Q σ :=
  fun E ι I a w _ hi => wp_skip ⟨.normal, σ, ι, I, .normal, h, hi⟩

theorem VW_exit {Q : Ex → St → Prop} {σ : St} {id : Nat} (h : Q (.exit id) σ) : VW P n (.exit id) Q σ :=
  fun E ι I a w _ hi => wp_exit ⟨.exit id, σ, ι, I, .exit id, h, hi⟩

theorem VW_ret {Q : Ex → St → Prop} {σ : St} (h : Q .ret σ) : VW P n .ret Q σ :=
  fun E ι I a w _ hi => wp_ret ⟨.ret, σ, ι, I, .ret, h, hi⟩

def seqQ (next : St → Prop) (Q : Ex → St → Prop) : Ex → St → Prop
  | .normal, σ => next σ
  | e, σ => Q e σ

theorem VW_seq {x y : Code} {Q : Ex → St → Prop} {σ : St} (h : VW P n x (seqQ (VW P n y Q) Q) σ) : VW P n (.seq x y) Q σ := by
  intro E ι I a w hn hi
  refine wp_seq (wp_mono (h E ι I a w hn hi) ?_)
  rintro e a' w' ⟨ex, s, ι', I', h1, h2, h3⟩
  cases h1 with
  | normal => exact h2 E ι' I' a' w' hn h3
  | exit id => exact ⟨_, s, ι', I', .exit id, h2, h3⟩
  | ret => exact ⟨_, s, ι', I', .ret, h2, h3⟩

def blockQ (id : Nat) (Q : Ex → St → Prop) : Ex → St → Prop
  | .exit i, σ => match Nat.beq i id with | true => Q .normal σ | false => Q (.exit i) σ
  | e, σ => Q e σ

theorem VW_block {c : Code} {id : Nat} {Q : Ex → St → Prop} {σ : St} (h : VW P n c (blockQ id Q) σ) : VW P n (.block id c) Q σ := by
  intro E ι I a w hn hi
  refine wp_block (wp_mono (h E ι I a w hn hi) ?_)
  rintro e a' w' ⟨ex, s, ι', I', h1, h2, h3⟩
  cases h1 with
  | normal => exact ⟨_, s, ι', I', .normal, h2, h3⟩
  | exit i =>
    simp only [Exit.inBlock]
    simp only [blockQ] at h2
    by_cases e : i = id
    · subst e
      rw [if_pos rfl]
      rw [show Nat.beq i i = true from Nat.beq_refl i] at h2
      exact ⟨_, s, ι', I', .normal, h2, h3⟩
    · rw [if_neg e]
      rw [show Nat.beq i id = false from by cases hb : Nat.beq i id with | false => rfl | true => exact absurd (Nat.eq_of_beq_eq_true hb) e] at h2
      exact ⟨_, s, ι', I', .exit i, h2, h3⟩
  | ret => exact ⟨_, s, ι', I', .ret, h2, h3⟩

theorem VW_cond {c : Operand} {x y : Code} {Q : Ex → St → Prop} {σ : St} {t : Bool} (he : ev σ.tm c = .d (.bool t)) (ht : t = true → VW P n x Q σ) (hf : t = false → VW P n y Q σ) : VW P n (.cond c x y) Q σ := by
  intro E ι I a w hn hi
  have hc := ev_rep hi.tm c
  rw [he] at hc
  exact wp_cond_split (rep_bool hc) (fun h => ht h E ι I a w hn hi) (fun h => hf h E ι I a w hn hi)

/-! ### Forgetting -/
def leL : A → A → Prop
  | .undef, _ => True
  | .d x, y => ∃ z, y = .d z ∧ Deq z x
  | x, y => x = y

def leLs : List A → List A → Prop
  | [], [] => True
  | x :: xs, y :: ys => leL x y ∧ leLs xs ys
  | _, _ => False

def leA : A → A → Prop
  | .undef, _ => True
  | .d x, y => ∃ z, y = .d z ∧ Deq z x
  | .agg xs, y => ∃ ys, y = .agg ys ∧ leLs xs ys
  | .tup xs, y => ∃ ys, y = .tup ys ∧ leLs xs ys
  | x, y => x = y

def leAs : List A → List A → Prop
  | [], [] => True
  | x :: xs, y :: ys => leA x y ∧ leAs xs ys
  | _, _ => False

def leO : AObj → AObj → Prop
  | .dead, _ => True
  | .box xs, y => ∃ ys, y = .box ys ∧ leLs xs ys
  | .arr m sz g fz, y => ∃ g' fz', y = .arr m sz g' fz' ∧ fz' ≤ fz ∧ fz ≤ m ∧ ∀ i j, i < m → j < sz → Deq (g' i j) (g i j)
  | .iter s p, y => y = .iter s p
  | .bld c, y => y = .bld c

def leH : AHeap → AHeap → Prop
  | [], _ => True
  | x :: xs, y :: ys => leO x y ∧ leH xs ys
  | _ :: _, [] => False

/-- σ' knows no more than σ; it may have lost objects that were made since the entry. -/
def leS (n : Nat) (σ' σ : St) : Prop := leAs σ'.tm σ.tm ∧ leH σ'.hp σ.hp ∧ n ≤ σ'.hp.length

theorem leH_get : ∀ {H' H : AHeap}, leH H' H → H'.length ≤ H.length ∧ ∀ (o : Nat) (x : AObj), H'[o]? = some x → ∃ y, H[o]? = some y ∧ leO x y
  | [], _, _ => ⟨Nat.zero_le _, fun o x h => by simp at h⟩
  | x :: xs, y :: ys, h => by
    obtain ⟨h1, h2⟩ := h
    obtain ⟨h3, h4⟩ := leH_get h2
    refine ⟨by simpa using h3, fun o z hz => ?_⟩
    cases o with
    | zero => simp at hz; subst hz; exact ⟨y, rfl, h1⟩
    | succ o => simpa using h4 o z (by simpa using hz)

theorem leAs_get : ∀ {xs ys : List A}, leAs xs ys → xs.length = ys.length ∧ ∀ k, k < xs.length → leA (xs.getD k .undef) (ys.getD k .undef)
  | [], [], _ => ⟨rfl, fun k h => by simp at h⟩
  | x :: xs, y :: ys, h => by
    obtain ⟨h1, h2⟩ := h
    obtain ⟨h3, h4⟩ := leAs_get h2
    refine ⟨by simp [h3], fun k hk => ?_⟩
    cases k with
    | zero => simpa using h1
    | succ k => simpa using h4 k (by simpa using hk)

theorem leLs_get : ∀ {xs ys : List A}, leLs xs ys → xs.length = ys.length ∧ ∀ k, k < xs.length → leL (xs.getD k .undef) (ys.getD k .undef)
  | [], [], _ => ⟨rfl, fun k h => by simp at h⟩
  | x :: xs, y :: ys, h => by
    obtain ⟨h1, h2⟩ := h
    obtain ⟨h3, h4⟩ := leLs_get h2
    refine ⟨by simp [h3], fun k hk => ?_⟩
    cases k with
    | zero => simpa using h1
    | succ k => simpa using h4 k (by simpa using hk)

/-- all objects that a value speaks of are below n -/
inductive Bel (n : Nat) : A → Prop
  | d (x : D) : Bel n (.d x)
  | nils : Bel n .nils
  | ref (o off len sz : Nat) (h : o < n) : Bel n (.ref o off len sz)
  | ptr (o off : Nat) (h : o < n) : Bel n (.ptr o off)
  | eptr (o i j len : Nat) (h : o < n) : Bel n (.eptr o i j len)
  | iptr (g : Nat → Nat → D) (i j sz : Nat) : Bel n (.iptr g i j sz)
  | itr (o : Nat) (h : o < n) : Bel n (.itr o)
  | clo (f : FuncId) (xs ys : List A) (h1 : ∀ k, k < xs.length → Bel n (xs.getD k .undef)) (h2 : ∀ k, k < ys.length → Bel n (ys.getD k .undef)) : Bel n (.clo f xs ys)
  | agg (xs : List A) (h1 : ∀ k, k < xs.length → Bel n (xs.getD k .undef)) : Bel n (.agg xs)
  | tup (xs : List A) (h1 : ∀ k, k < xs.length → Bel n (xs.getD k .undef)) : Bel n (.tup xs)
  | undef : Bel n .undef

section
variable {w : World} {I : Nat → Nat → Prop} {ι : Nat → Option Nat} {H H' : AHeap}

theorem RepA.bel {v : Value} {x : A} (h : RepA w I ι H v x) : Bel H.length x := by
  induction h with
  | d => exact .d _
  | nils => exact .nils
  | ref _ _ _ _ _ ho => exact .ref _ _ _ _ ho
  | ptr _ _ _ ho => exact .ptr _ _ ho
  | eptr _ _ _ _ _ ho => exact .eptr _ _ _ _ ho
  | iptr => exact .iptr _ _ _ _
  | itr _ _ ho => exact .itr _ ho
  | clo _ _ _ _ _ _ _ _ _ ih1 ih2 => exact .clo _ _ _ ih1 ih2
  | agg _ _ _ _ ih => exact .agg _ ih
  | tup _ _ _ _ ih => exact .tup _ ih
  | undef => exact .undef

/-- a value over fewer objects, of which less is known -/
theorem RepA.less (hH : leH H' H) {v : Value} {x : A} (h : RepA w I ι H v x) : Bel H'.length x → RepA w I ι H' v x := by
  obtain ⟨hl, hg⟩ := leH_get hH
  induction h with
  | d v x h => exact fun _ => .d v x h
  | nils => exact fun _ => .nils
  | ref v o off len sz ho h hlen =>
    intro hb
    cases hb with | ref _ _ _ _ hb =>
    refine .ref v o off len sz hb (fun m sz' g fz hx hs => ?_) hlen
    obtain ⟨y, hy, hle⟩ := hg o _ hx
    obtain ⟨g', fz', rfl, -⟩ := hle
    exact h m sz' g' fz' hy hs
  | ptr v o off ho h hv =>
    intro hb
    cases hb with | ptr _ _ hb =>
    refine .ptr v o off hb (fun x hx hbx => ?_) hv
    obtain ⟨y, hy, hle⟩ := hg o _ hx
    cases x with
    | box cs =>
      obtain ⟨ys, rfl, -⟩ := hle
      exact h _ hy trivial
    | bld c => cases hle; exact h _ hy trivial
    | _ => exact hbx.elim
  | eptr v o i j len ho h hv =>
    intro hb
    cases hb with | eptr _ _ _ _ hb =>
    refine .eptr v o i j len hb (fun m sz g fz hx => ?_) hv
    obtain ⟨y, hy, hle⟩ := hg o _ hx
    obtain ⟨g', fz', rfl, -⟩ := hle
    exact h m sz g' fz' hy
  | iptr b o g i j sz vals hc hr => exact fun _ => .iptr b o g i j sz vals hc hr
  | itr v o ho h hv =>
    intro hb
    cases hb with | itr _ hb =>
    refine .itr v o hb (fun s p hx => ?_) hv
    obtain ⟨y, hy, hle⟩ := hg o _ hx
    cases hle
    exact h s p hy
  | clo f fv cv xs ys h1 h2 _ _ ih1 ih2 =>
    intro hb
    cases hb with | clo _ _ _ b1 b2 =>
    exact .clo f fv cv xs ys h1 h2 (fun k hk => ih1 k hk (b1 k hk)) (fun k hk => ih2 k hk (b2 k hk))
  | agg vs cs h1 _ ih =>
    intro hb
    cases hb with | agg _ b1 =>
    exact .agg vs cs h1 (fun k hk => ih k hk (b1 k hk))
  | tup vs cs h1 _ ih =>
    intro hb
    cases hb with | tup _ b1 =>
    exact .tup vs cs h1 (fun k hk => ih k hk (b1 k hk))
  | undef v => exact fun _ => .undef v

theorem leL_rep {v : Value} {x y : A} (h : RepA w I ι H v y) (hle : leL x y) : RepA w I ι H v x := by
  cases x with
  | undef => exact .undef v
  | d x =>
    obtain ⟨z, rfl, hz⟩ := hle
    cases h with | d _ _ h => exact .d _ _ (h.deq hz)
  | _ => cases hle; exact h

theorem leA_rep {v : Value} {x y : A} (h : RepA w I ι H v y) (hle : leA x y) : RepA w I ι H v x := by
  cases x with
  | undef => exact .undef v
  | d x =>
    obtain ⟨z, rfl, hz⟩ := hle
    cases h with | d _ _ h => exact .d _ _ (h.deq hz)
  | agg xs =>
    obtain ⟨ys, rfl, hle⟩ := hle
    obtain ⟨l1, l2⟩ := leLs_get hle
    cases h with | agg vs _ h1 h2 => exact .agg vs xs (by omega) (fun k hk => leL_rep (h2 k (by omega)) (l2 k hk))
  | tup xs =>
    obtain ⟨ys, rfl, hle⟩ := hle
    obtain ⟨l1, l2⟩ := leLs_get hle
    cases h with | tup vs _ h1 h2 => exact .tup vs xs (by omega) (fun k hk => leL_rep (h2 k (by omega)) (l2 k hk))
  | _ => cases hle; exact h
end

/-- the objects of which the weaker state still speaks speak of no lost ones: asked where they are boxes -/
def BelO (n : Nat) : AObj → Prop
  | .box cs => ∀ k, k < cs.length → Bel n (cs.getD k .undef)
  | _ => True

def BelS (σ : St) : Prop := (∀ k, k < σ.tm.length → Bel σ.hp.length (σ.tm.getD k .undef)) ∧ ∀ (o : Nat) (x : AObj), σ.hp[o]? = some x → BelO σ.hp.length x

theorem leO_own {w : World} {ι : Nat → Option Nat} {o b : Nat} {x y : AObj} (hx : x.live) (hle : leO x y) (h : Own w ι o x b) : Own w ι o y b := by
  cases x with
  | dead => exact hx.elim
  | iter s p => cases hle; exact h
  | bld c => cases hle; exact h
  | box cs => obtain ⟨_, rfl, _⟩ := hle; exact h
  | arr m sz g fz => obtain ⟨_, _, rfl, _⟩ := hle; exact h

theorem Rel.less {B : Gd} {ι : Nat → Option Nat} {I : Nat → Nat → Prop} {w : World} {H H' : AHeap} (r : Rel B ι I w H) (hH : leH H' H) (hb : ∀ (o : Nat) (x : AObj), H'[o]? = some x → BelO H'.length x) : Rel B ι I w H' := by
  obtain ⟨hl, hg⟩ := leH_get hH
  refine ⟨r.base, r.imm, r.low, r.glob, fun o x hx => ?_, fun o o' x x' b hx hx' lx lx' e e' => ?_⟩
  · obtain ⟨y, hy, hle⟩ := hg o x hx
    have hob := r.obj o y hy
    cases x with
    | dead => trivial
    | iter s p => cases hle; exact hob
    | bld c => cases hle; exact hob
    | box cs =>
      obtain ⟨ys, rfl, hls⟩ := hle
      obtain ⟨l1, l2⟩ := leLs_get hls
      obtain ⟨b, vs, el, fr, e1, e2, e3, e4, e5, e6⟩ := hob
      refine ⟨b, vs, el, fr, e1, e2, e3, by omega, fun k hk => ?_, e6⟩
      exact (leL_rep (e5 k (by omega)) (l2 k hk)).less hH (hb o _ hx k hk)
    | arr m sz g fz =>
      obtain ⟨g', fz', rfl, h1, h2, h3⟩ := hle
      obtain ⟨hfz, hob⟩ := hob
      refine ⟨h2, ?_⟩
      rcases hob with ⟨b, vs, el, fr, e1, e2, e3, e4, e5, e6⟩ | h
      · have : fz' * sz ≤ fz * sz := Nat.mul_le_mul_right _ h1
        exact .inl ⟨b, vs, el, fr, e1, e2, e3, e4, fun i j hi hj => (e5 i j hi hj).deq (h3 i j hi hj), fun k hk => e6.1 k (by omega), fun k hk => e6.2 k (by omega)⟩
      · exact .inr h
  · obtain ⟨y, hy, hle⟩ := hg o x hx
    obtain ⟨y', hy', hle'⟩ := hg o' x' hx'
    have lv : ∀ {x y : AObj}, x.live → leO x y → y.live := fun {x y} hx hle => by
      cases x with
      | dead => exact hx.elim
      | iter s p => cases hle; trivial
      | bld c => cases hle; trivial
      | box cs => obtain ⟨_, rfl, _⟩ := hle; trivial
      | arr m sz g fz => obtain ⟨_, _, rfl, _⟩ := hle; trivial
    exact r.inj o o' y y' b hy hy' (lv lx hle) (lv lx' hle') (leO_own lx hle e) (leO_own lx' hle' e')

theorem Inv.less {E : Entry} {ι : Nat → Option Nat} {I : Nat → Nat → Prop} {a : Act} {w : World} {σ σ' : St} (h : Inv E ι I a w σ) (hle : leS E.H.length σ' σ) (hb : BelS σ') : Inv E ι I a w σ' := by
  obtain ⟨h1, h2, h3⟩ := hle
  obtain ⟨l1, l2⟩ := leAs_get h1
  refine ⟨h.defers, ⟨h.tm.1.trans l1.symm, fun t ht => ?_⟩, h.rel.less h2 hb.2, ⟨h.keep.below, h.keep.same, h.keep.imm, h3, fun v x hx => ?_⟩⟩
  · exact RepA.less h2 (leA_rep (h.tm.2 t (by omega)) (l2 t ht)) (hb.1 t ht)
  · refine (h.keep.rep v x hx).less h2 ?_
    have : ∀ {n m : Nat} {x : A}, n ≤ m → Bel n x → Bel m x := fun {n m x} hnm hx => by
      induction hx with
      | d => exact .d _
      | nils => exact .nils
      | ref _ _ _ _ h => exact .ref _ _ _ _ (by omega)
      | ptr _ _ h => exact .ptr _ _ (by omega)
      | eptr _ _ _ _ h => exact .eptr _ _ _ _ (by omega)
      | iptr => exact .iptr _ _ _ _
      | itr _ h => exact .itr _ (by omega)
      | clo _ _ _ _ _ ih1 ih2 => exact .clo _ _ _ ih1 ih2
      | agg _ _ ih => exact .agg _ ih
      | tup _ _ ih => exact .tup _ ih
      | undef => exact .undef
    exact this h3 hx.bel

theorem VW_less {c : Code} {Q : Ex → St → Prop} {σ σ' : St} (hle : leS n σ' σ) (hb : BelS σ') (h : VW P n c Q σ') : VW P n c Q σ :=
  fun E ι I a w hn hi => h E ι I a w hn (hi.less (by rw [hn]; exact hle) hb)

/-- THE LOOP. -/
theorem VW_loop {c : Code} {Q : Ex → St → Prop} {σ : St} (J : Nat → St → Prop) (k : Nat) (h0 : ∃ s, leS n s σ ∧ BelS s ∧ J k s)
    (round : ∀ k s, J k s → VW P n c (seqQ (fun s' => ∃ k' s'', k' < k ∧ leS n s'' s' ∧ BelS s'' ∧ J k' s'') Q) s) : VW P n (.loop c) Q σ := by
  intro E ι I a w hn hi
  refine wp_loop_ghost (fun k a w => ∃ s ι I, J k s ∧ Inv E ι I a w s) k ?_ ?_
  · obtain ⟨s, h1, h2, h3⟩ := h0
    exact ⟨s, ι, I, h3, hi.less (by rw [hn]; exact h1) h2⟩
  · rintro k a w ⟨s, ι, I, hJ, hi⟩
    refine wp_mono (round k s hJ E ι I a w hn hi) ?_
    rintro e a' w' ⟨ex, s', ι', I', h1, h2, h3⟩
    cases h1 with
    | normal =>
      obtain ⟨k', s'', hk, hle, hb, hJ'⟩ := h2
      exact ⟨k', hk, s'', ι', I', hJ', h3.less (by rw [hn]; exact hle) hb⟩
    | exit id => exact ⟨_, s', ι', I', .exit id, h2, h3⟩
    | ret => exact ⟨_, s', ι', I', .ret, h2, h3⟩

end Go.VM

/- Regions that draw the order of their operations. First: a larger postcondition. -/
set_option linter.unusedSimpArgs false
set_option linter.unusedVariables false
set_option linter.unusedSectionVars false
namespace Go.VM
open Ops
variable [Ops] [Glb] [Lim]

section mono
variable {T : Tab} {t : Nat} {hp : AHeap} {Q Q' : A → Prop} {K K' : A → AHeap → Prop} (hq : ∀ a, Q a → Q' a) (hk : ∀ a h, K a h → K' a h)
include hq
theorem cmpQ_mono {p q : Prop} (h : cmpQ p q Q) : cmpQ p q Q' := by
  unfold cmpQ at *
  simp only [Imp_eq] at *
  exact ⟨fun a => hq _ (h.1 a), fun a => hq _ (h.2 a)⟩
theorem binI_mono {op : BinOp} {k : IntKind} {x y : Int} (h : binI op k x y Q) : binI op k x y Q' := by
  cases op <;> simp only [binI] at h ⊢ <;> first | exact hq _ h | exact cmpQ_mono hq h | exact ⟨h.1, hq _ h.2⟩ | exact h
theorem binS_mono {op : BinOp} {x y : ByteArray} (h : binS op x y Q) : binS op x y Q' := by
  cases op <;> simp only [binS] at h ⊢ <;> first | exact hq _ h | exact cmpQ_mono hq h | exact ⟨h.1, h.2.1, hq _ h.2.2⟩ | exact h
theorem binB_mono {op : BinOp} {x y : Bool} (h : binB op x y Q) : binB op x y Q' := by
  cases op <;> simp only [binB] at h ⊢ <;> first | exact hq _ h | exact h
theorem eqB_mono {op : BinOp} {b : Bool} (h : eqB op b Q) : eqB op b Q' := by
  unfold eqB at h ⊢
  split at h <;> first | exact hq _ h | exact h
theorem wnilcmp_mono {op : BinOp} {x y : A} (h : wnilcmp T t op x y Q) : wnilcmp T t op x y Q' := by
  unfold wnilcmp at h ⊢
  split at h
  · split at h
    · exact eqB_mono hq h
    · simp only [Imp_eq] at h ⊢
      split at h <;> first | exact ⟨fun e => hq _ (h.1 e), hq _ h.2⟩ | exact h
    · split at h <;> first | exact ⟨hq _ h.1, hq _ h.2⟩ | exact h
    · exact h
  · split at h <;> first | exact eqB_mono hq h | exact h
  · exact h
theorem wbin_mono (he : ∀ e xs ys Q Q', T.eq t = some e → (∀ a, Q a → Q' a) → e xs ys Q → e xs ys Q') {op : BinOp} {x y : A} (h : wbin T t op x y Q) : wbin T t op x y Q' := by
  unfold wbin at h ⊢
  split at h
  · split at h
    · exact ⟨h.1, hq _ h.2⟩
    · exact ⟨h.1, hq _ h.2⟩
    · exact ⟨h.1, binI_mono hq h.2⟩
  · exact binS_mono hq h
  · split at h
    · exact binB_mono hq h
    · exact h.elim
  · split at h
    · rename_i e heq; exact he _ _ _ _ _ heq hq h
    · rename_i e heq
      refine he _ _ _ _ _ heq ?_ h
      intro a
      split
      · split <;> exact hq _
      · exact id
    · exact h.elim
  · exact wnilcmp_mono hq h
theorem wload_mono {p : A} (h : wload T t p hp Q) : wload T t p hp Q' := by
  unfold wload at h ⊢
  split at h
  · exact h
  · split at h
    · split at h
      · exact ⟨h.1, h.2.1, hq _ h.2.2⟩
      · exact h.elim
    · split at h
      · exact ⟨h.1, h.2.1, h.2.2.1, h.2.2.2.1, hq _ h.2.2.2.2⟩
      · exact h.elim
    · exact ⟨h.1, h.2.1, hq _ h.2.2⟩
    · exact h.elim
theorem wlen_mono {x : A} (h : wlen T t x Q) : wlen T t x Q' := by
  unfold wlen at h ⊢
  split at h <;> first | exact hq _ h | exact h
theorem windexAddr_mono {x i : A} (h : windexAddr T t x i hp Q) : windexAddr T t x i hp Q' := by
  unfold windexAddr at h ⊢
  split at h
  · split at h
    · split at h
      · exact ⟨h.1, h.2.1, h.2.2.1, hq _ h.2.2.2⟩
      · split at h
        · exact ⟨h.1, h.2.1, h.2.2.1, h.2.2.2.1, h.2.2.2.2.1, hq _ h.2.2.2.2.2⟩
        · exact h.elim
      · exact h.elim
    · exact h.elim
  · split at h
    · split at h
      · split at h
        · exact ⟨h.1, hq _ h.2⟩
        · exact ⟨h.1, hq _ h.2⟩
        · exact ⟨h.1, hq _ h.2⟩
        · exact h.elim
      · exact h.elim
    · exact h.elim
  · exact h.elim
theorem windex_mono {x i : A} (h : windex T t x i Q) : windex T t x i Q' := by
  unfold windex at h ⊢
  split at h
  · split at h
    · exact ⟨h.1, h.2.1, hq _ h.2.2⟩
    · exact h.elim
  · split at h
    · obtain ⟨h1, h2, h⟩ := h
      refine ⟨h1, h2, ?_⟩
      split at h
      · obtain ⟨i, h3, h4, h5, h6⟩ := h; exact ⟨i, h3, h4, h5, hq _ h6⟩
      · exact h.elim
    · exact h.elim
  · exact h.elim
theorem wfieldAddr_mono {f : Nat} {x : A} (h : wfieldAddr T t f x Q) : wfieldAddr T t f x Q' := by
  unfold wfieldAddr at h ⊢
  split at h
  · refine ⟨h.1, ?_⟩
    have h := h.2
    split at h <;> first | exact hq _ h | exact h
  · exact h
theorem wfield_mono {f : Nat} {x : A} (h : wfield T t f x Q) : wfield T t f x Q' := by
  unfold wfield at h ⊢
  split at h
  · exact ⟨h.1, h.2.1, hq _ h.2.2⟩
  · exact h
theorem wbuild_mono {parts : List (Nat × A)} (h : wbuild T t parts Q) : wbuild T t parts Q' := by
  unfold wbuild at h ⊢
  split at h
  · refine ⟨h.1, ?_⟩
    have h := h.2
    split at h <;> first | exact hq _ h | exact h
  · split at h
    · split at h <;> first | exact hq _ h | exact h
    · exact h
  · exact h
theorem wmax_mono {x y : A} (h : wmax x y Q) : wmax x y Q' := by
  unfold wmax at h ⊢
  split at h <;> first | exact hq _ h | exact h
theorem wmin_mono {x y : A} (h : wmin x y Q) : wmin x y Q' := by
  unfold wmin at h ⊢
  split at h <;> first | exact hq _ h | exact h
theorem wconv_mono {s d : Nat} {x : A} (h : wconv T s d x Q) : wconv T s d x Q' := by
  unfold wconv at h ⊢
  split at h <;> first | exact hq _ h | exact h
theorem wun_mono {op : UnOp} {x : A} (h : wun op x Q) : wun op x Q' := by
  unfold wun at h ⊢
  split at h <;> first | exact hq _ h | exact h
theorem wnil_mono {x : A} (h : wnil x Q) : wnil x Q' := by
  unfold wnil at h ⊢
  split at h <;> first | exact hq _ h | exact h
omit hq
include hk
theorem wdata_mono {v : A} {K K' : D → AHeap → Prop} (hk : ∀ a h, K a h → K' a h) (h : wdata v hp K) : wdata v hp K' := by
  unfold wdata at h ⊢
  split at h
  · exact hk _ _ h
  · exact hk _ _ h
  · split at h
    · exact ⟨h.1, h.2.1, hk _ _ h.2.2⟩
    · exact h
  · exact h
omit hk
theorem wdatas_mono : ∀ (l : List A) {hp : AHeap} {K K' : List D → AHeap → Prop} (hk : ∀ a h, K a h → K' a h) (h : wdatas l hp K), wdatas l hp K'
  | [], hp, K, K', hk, h => hk _ _ h
  | v :: r, hp, K, K', hk, h => wdata_mono (K := fun _ _ => True) (K' := fun _ _ => True) (fun _ _ h => h) (fun a h' hh => wdatas_mono r (fun _ _ h => hk _ _ h) hh) h
include hk
theorem wslice_mono {x : A} {lo hi : Option A} (h : wslice T t x lo hi hp K) : wslice T t x lo hi hp K' := by
  unfold wslice at h ⊢
  dsimp only at h ⊢
  split at h
  · exact h
  · split at h
    · split at h
      · split at h
        · exact ⟨h.1, h.2.1, hk _ _ h.2.2⟩
        · exact ⟨h.1, h.2.1, h.2.2.1, hk _ _ h.2.2.2⟩
        · exact h
      · exact h
    · split at h
      · refine ⟨h.1, ?_⟩
        have h := h.2
        split at h
        · exact ⟨h.1, h.2.1, hk _ _ h.2.2⟩
        · exact ⟨h.1, h.2.1, h.2.2.1, hk _ _ h.2.2.2⟩
        · exact h
      · exact h
    · split at h
      · split at h
        · refine ⟨h.1, h.2.1, h.2.2.1, ?_⟩
          have h := h.2.2.2
          split at h
          · exact ⟨h.1, h.2.1, hk _ _ h.2.2⟩
          · exact ⟨h.1, h.2.1, h.2.2.1, hk _ _ h.2.2.2⟩
          · exact h
        · exact h
      · exact h
    · exact h
theorem wbuildSlice_mono {len : Nat} {parts : List (Nat × A)} (h : wbuildSlice T t len parts hp K) : wbuildSlice T t len parts hp K' := by
  unfold wbuildSlice at h ⊢
  split at h
  · split at h
    · refine ⟨h.1, h.2.1, ?_⟩
      have h := h.2.2
      split at h
      · exact wdatas_mono _ (fun _ _ h => hk _ _ h) h
      · exact h
    · exact h
  · exact h
theorem walloc_mono {e : Nat} {ti : TI} (h : walloc T e ti hp K) : walloc T e ti hp K' := by
  unfold walloc at h ⊢
  split at h
  · split at h
    · exact hk _ _ h
    · exact hk _ _ h
  · exact hk _ _ h
theorem wmake_mono {n c : A} (h : wmake T t n c hp K) : wmake T t n c hp K' := by
  unfold wmake at h ⊢
  split at h
  · split at h
    · exact ⟨h.1, h.2.1, h.2.2.1, h.2.2.2.1, h.2.2.2.2.1, wdatas_mono _ (fun _ _ h => hk _ _ h) h.2.2.2.2.2⟩
    · exact h
  · exact h
omit hk
theorem wsrc_mono {x : A} {K K' : Nat → (Nat → Nat → D) → Nat → AHeap → Prop} (hk : ∀ a b c h, K a b c h → K' a b c h) (h : wsrc x hp K) : wsrc x hp K' := by
  unfold wsrc at h ⊢
  split at h
  · exact hk _ _ _ _ h
  · exact hk _ _ _ _ h
  · exact hk _ _ _ _ h
  · split at h
    · exact ⟨h.1, h.2.1, hk _ _ _ _ h.2.2⟩
    · exact h
  · exact h
include hk
theorem wappend_mono {t2 : Nat} {x y : A} (h : wappend T t t2 x y hp K) : wappend T t t2 x y hp K' := by
  unfold wappend at h ⊢
  split at h
  · split at h
    · refine ⟨h.1, h.2.1, h.2.2.1, wsrc_mono ?_ h.2.2.2⟩
      intro m g sz hp h
      refine ⟨h.1, ?_⟩
      have h := h.2
      split at h
      · exact ⟨h.1, hk _ _ h.2⟩
      · split at h
        · exact ⟨h.1, h.2.1, h.2.2.1, h.2.2.2.1, h.2.2.2.2.1, h.2.2.2.2.2.1, hk _ _ h.2.2.2.2.2.2⟩
        · exact h
      · exact h
    · exact h
  · exact h
theorem wnext_mono {x : A} (h : wnext x hp K) : wnext x hp K' := by
  unfold wnext at h ⊢
  split at h
  · split at h
    · simp only [Imp_eq] at h ⊢
      exact ⟨fun a => hk _ _ (h.1 a), fun a => hk _ _ (h.2 a)⟩
    · exact h
  · exact h
omit hk
theorem wstore_mono {p v : A} {K K' : AHeap → Prop} (hk : ∀ h, K h → K' h) (h : wstore T t p v hp K) : wstore T t p v hp K' := by
  unfold wstore at h ⊢
  split at h
  · exact h
  · refine ⟨h.1, h.2.1, ?_⟩
    have h := h.2.2
    split at h
    · split at h
      · exact ⟨h.1, hk _ h.2⟩
      · exact h
    · refine wdatas_mono _ ?_ h
      intro xs hp h
      split at h
      · exact ⟨h.1, h.2.1, h.2.2.1, h.2.2.2.1, hk _ h.2.2.2.2⟩
      · exact h
    · exact h
include hk
theorem wprim_mono (he : ∀ t e xs ys Q Q', T.eq t = some e → (∀ a, Q a → Q' a) → e xs ys Q → e xs ys Q') {o : Oper} {tm : List A} (h : wprim T o tm hp K) : wprim T o tm hp K' := by
  have hq : ∀ a, K a hp → K' a hp := fun a => hk a hp
  unfold wprim at h ⊢
  split at h
  case h_24 =>
    split at h
    · split at h
      · exact wlen_mono hq h
      · exact h
    · split at h
      · exact wmax_mono hq h
      · exact h
    · split at h
      · exact wmin_mono hq h
      · exact h
    · split at h
      · exact wappend_mono hk h
      · exact h
    · exact h
  all_goals first
    | exact hk _ _ h
    | exact ⟨h.1, hk _ _ h.2⟩
    | exact wbuild_mono hq h
    | exact wbuildSlice_mono hk h
    | exact wload_mono hq h
    | exact wstore_mono (fun hp' => hk _ hp') h
    | exact wnil_mono hq h
    | exact wbin_mono hq (fun e xs ys Q Q' => he _ e xs ys Q Q') h
    | exact wun_mono hq h
    | exact wconv_mono hq h
    | exact wmake_mono hk h
    | exact walloc_mono hk h
    | exact wslice_mono hk h
    | exact wfieldAddr_mono hq h
    | exact wfield_mono hq h
    | exact windexAddr_mono hq h
    | exact windex_mono hq h
    | exact wnext_mono hk h
    | exact h.elim
    | (split at h <;> (try split at h) <;> first | exact walloc_mono hk h | exact hk _ _ h | exact ⟨h.1, hk _ _ h.2⟩ | exact h)
end mono

/-! ### Operations that yield one value, whatever comes after -/
/-- 1: a value of the slots alone; 2: a value of the slots and of what the heap holds; 0: anything else -/
def cls (T : Tab) : Op → Nat
  | .move _ | .assign _ | .pick .. | .nilCheck _ | .unOp .. | .convert .. | .fieldAddr .. | .field .. | .index .. | .extract .. | .build .. => 1
  | .makeFunc (.func _) .. => 1
  | .binOp _ t .. => match T.eq t with
    | some _ => 0
    | none => match T.ti t with
      | some ⟨.slice _, _, _, _⟩ => 0
      | _ => 1
  | .call ⟨.builtin .len, _, _⟩ | .call ⟨.builtin .max, _, _⟩ | .call ⟨.builtin .min, _, _⟩ => 1
  | .load .. | .indexAddr .. => 2
  | .slice t _ _ _ none => match T.ti t with
    | some ⟨.string, _, _, _⟩ => 1
    | _ => 0
  | _ => 0

/-- one value -/
def One (F : (A → Prop) → Prop) : Prop := ∀ Q, F Q → ∃ v, Q v ∧ ∀ Q', Q' v → F Q'

section one
variable {T : Tab} {t : Nat} {hp : AHeap}
theorem one_cmpQ {p q : Prop} (h : p ∨ q) (hn : p → ¬ q) : One (cmpQ p q) := by
  intro Q hq
  unfold cmpQ at *
  simp only [Imp_eq] at *
  rcases h with h | h
  · exact ⟨_, hq.1 h, fun Q' h' => ⟨fun _ => h', fun h2 => absurd h2 (hn h)⟩⟩
  · exact ⟨_, hq.2 h, fun Q' h' => ⟨fun h2 => absurd h (hn h2), fun _ => h'⟩⟩
theorem one_here (v : A) : One (fun Q => Q v) := fun Q h => ⟨v, h, fun _ h => h⟩
theorem one_no : One (fun _ => False) := fun Q h => h.elim
theorem One.and {F : (A → Prop) → Prop} {p : Prop} (h : One F) : One (fun Q => p ∧ F Q) := fun Q hq => by
  obtain ⟨v, h1, h2⟩ := h Q hq.2
  exact ⟨v, h1, fun Q' h' => ⟨hq.1, h2 Q' h'⟩⟩
theorem One.ex {α : Type} {F : α → (A → Prop) → Prop} (h : ∀ i, One (F i)) : One (fun Q => ∃ i, F i Q) := fun Q hq => by
  obtain ⟨i, hq⟩ := hq
  obtain ⟨v, h1, h2⟩ := h i Q hq
  exact ⟨v, h1, fun Q' h' => ⟨i, h2 Q' h'⟩⟩

theorem one_binI {op : BinOp} {k : IntKind} {x y : Int} : One (binI op k x y) := by
  intro Q hQ
  cases op <;> simp only [binI] at hQ ⊢ <;> first
    | exact one_here _ Q hQ
    | exact (one_here _).and Q hQ
    | exact hQ.elim
    | (refine one_cmpQ ?_ ?_ Q hQ <;> simp only [eqP_eq, neP_eq, ltP_eq, leP_eq] <;> omega)
theorem one_binS {op : BinOp} {x y : ByteArray} : One (binS op x y) := by
  intro Q hQ
  cases op <;> simp only [binS] at hQ ⊢ <;> first
    | exact one_here _ Q hQ
    | exact ((one_here _).and).and Q hQ
    | exact hQ.elim
    | (refine one_cmpQ ?_ ?_ Q hQ <;> simp only [eqSP_eq, neSP_eq, ltSP_eq, geSP_eq] <;> first | (cases Op.bytesLess x.toList y.toList <;> simp; done) | (by_cases e : x = y <;> simp [e]))
theorem one_binB {op : BinOp} {x y : Bool} : One (binB op x y) := by
  intro Q hQ
  cases op <;> simp only [binB] at hQ ⊢ <;> first | exact one_here _ Q hQ | exact hQ.elim
theorem one_eqB {op : BinOp} {b : Bool} : One (eqB op b) := by
  intro Q hQ
  unfold eqB at hQ ⊢
  split at hQ <;> first | exact one_here _ Q hQ | exact hQ.elim
theorem one_wbin {op : BinOp} {x y : A} (he : T.eq t = none) (hs : ∀ e a b c, T.ti t ≠ some ⟨.slice e, a, b, c⟩) : One (wbin T t op x y) := by
  intro Q hQ
  unfold wbin at hQ ⊢
  split at hQ
  · split at hQ
    · exact One.and (one_here _) Q hQ
    · exact One.and (one_here _) Q hQ
    · rename_i h1 h2
      have := One.and (p := IntKind.same _ _ = true) one_binI Q hQ
      simpa [h1, h2] using this
  · exact one_binS Q hQ
  · split at hQ
    · exact one_binB Q hQ
    · exact hQ.elim
  · simp [he] at hQ
  · unfold wnilcmp at hQ ⊢
    split at hQ
    · exact absurd ‹_› (hs _ _ _ _)
    · split at hQ <;> first | exact one_eqB Q hQ | exact hQ.elim
    · exact hQ.elim
theorem one_wload {p : A} : One (wload T t p hp) := by
  intro Q h
  unfold wload at h ⊢
  split at h
  · exact h.elim
  · split at h
    · split at h
      · exact ((one_here _).and).and Q h
      · exact h.elim
    · split at h
      · exact ((((one_here _).and).and).and).and Q h
      · exact h.elim
    · exact ((one_here _).and).and Q h
    · exact h.elim
theorem one_wlen {x : A} : One (wlen T t x) := by
  intro Q h
  unfold wlen at h ⊢
  split at h <;> first | exact one_here _ Q h | exact h.elim
theorem one_windexAddr {x i : A} : One (windexAddr T t x i hp) := by
  intro Q h
  unfold windexAddr at h ⊢
  split at h
  · split at h
    · split at h
      · exact (((one_here _).and).and).and Q h
      · split at h
        · exact (((((one_here _).and).and).and).and).and Q h
        · exact h.elim
      · exact h.elim
    · exact h.elim
  · split at h
    · split at h
      · split at h
        · exact (one_here _).and Q h
        · exact (one_here _).and Q h
        · exact (one_here _).and Q h
        · exact h.elim
      · exact h.elim
    · exact h.elim
  · exact h.elim
theorem one_windex {x i : A} : One (windex T t x i) := by
  intro Q h
  unfold windex at h ⊢
  split at h
  · split at h
    · exact ((one_here _).and).and Q h
    · exact h.elim
  · split at h
    · split at h
      · refine ((One.ex fun i => ?_).and).and Q h
        exact ((one_here _).and.and).and
      · exact h.2.2.elim
    · exact h.elim
  · exact h.elim
theorem one_wfieldAddr {f : Nat} {x : A} : One (wfieldAddr T t f x) := by
  intro Q h
  unfold wfieldAddr at h ⊢
  split at h
  · split at h
    · exact (one_here _).and Q h
    · exact (one_here _).and Q h
    · exact (one_here _).and Q h
    · exact h.2.elim
  · exact h.elim
theorem one_wfield {f : Nat} {x : A} : One (wfield T t f x) := by
  intro Q h
  unfold wfield at h ⊢
  split at h
  · exact ((one_here _).and).and Q h
  · exact h.elim
theorem one_wbuild {parts : List (Nat × A)} : One (wbuild T t parts) := by
  intro Q h
  unfold wbuild at h ⊢
  split at h
  · split at h
    · exact (one_here _).and Q h
    · exact h.2.elim
  · split at h
    · split at h
      · exact one_here _ Q h
      · exact h.elim
    · exact h.elim
  · exact h.elim
theorem one_wmax {x y : A} : One (wmax x y) := by
  intro Q h
  unfold wmax at h ⊢
  split at h <;> first | exact one_here _ Q h | exact h.elim
theorem one_wmin {x y : A} : One (wmin x y) := by
  intro Q h
  unfold wmin at h ⊢
  split at h <;> first | exact one_here _ Q h | exact h.elim
theorem one_wconv {s d : Nat} {x : A} : One (wconv T s d x) := by
  intro Q h
  unfold wconv at h ⊢
  split at h <;> first | exact one_here _ Q h | exact h.elim
theorem one_wun {op : UnOp} {x : A} : One (wun op x) := by
  intro Q h
  unfold wun at h ⊢
  split at h <;> first | exact one_here _ Q h | exact h.elim
theorem one_wnil {x : A} : One (wnil x) := by
  intro Q h
  unfold wnil at h ⊢
  split at h <;> first | exact one_here _ Q h | exact h.elim

theorem slice_string {t : Nat} {x : A} {lo hi : Option A} {K : A → AHeap → Prop} {n b : Nat} {z : List A} (ht : T.ti t = some ⟨.string, n, b, z⟩) (h : wslice T t x lo hi hp K) : ∃ v, K v hp ∧ ∀ hp' K', K' v hp' → wslice T t x lo hi hp' K' := by
  unfold wslice at h ⊢
  simp only [ht] at h ⊢
  split at h
  · exact h.elim
  · rename_i hl
    split at h
    · split at h
      · exact ⟨_, h.2.2, fun _ _ hk => ⟨h.1, h.2.1, hk⟩⟩
      · exact ⟨_, h.2.2.2, fun _ _ hk => ⟨h.1, h.2.1, h.2.2.1, hk⟩⟩
      · exact h.elim
    · exact h.elim
    · split at h
      · exact h.elim
      · exact h.elim
    · exact h.elim

theorem one_of {F : (A → Prop) → Prop} (h : One F) {K : A → AHeap → Prop} (hf : F (fun a => K a hp)) : ∃ v, K v hp ∧ ∀ hp' K', K' v hp' → F (fun a => (K' : A → AHeap → Prop) a hp') :=
  let ⟨v, h1, h2⟩ := h _ hf
  ⟨v, h1, fun hp' K' hk => h2 _ hk⟩

theorem one_wprim {o : Oper} {tm : List A} {K : A → AHeap → Prop} (hc : cls T o.op ≠ 0) (h : wprim T o tm hp K) :
    ∃ v, K v hp ∧ (∀ K', K' v hp → wprim T o tm hp K') ∧ (cls T o.op = 1 → ∀ hp' K', K' v hp' → wprim T o tm hp' K') := by
  have fin1 : ∀ {F : AHeap → (A → AHeap → Prop) → Prop}, (∃ v, K v hp ∧ ∀ hp' K', K' v hp' → F hp' K') → ∃ v, K v hp ∧ (∀ K', K' v hp → F hp K') ∧ (cls T o.op = 1 → ∀ hp' K', K' v hp' → F hp' K') :=
    fun ⟨v, h1, h2⟩ => ⟨v, h1, fun K' hk => h2 _ K' hk, fun _ => h2⟩
  unfold wprim at h ⊢
  split at h
  case h_24 _ c hop =>
    split at h
    · split at h
      · exact fin1 (one_of one_wlen h)
      · exact h.elim
    · split at h
      · exact fin1 (one_of one_wmax h)
      · exact h.elim
    · split at h
      · exact fin1 (one_of one_wmin h)
      · exact h.elim
    · rename_i hcal
      obtain ⟨cal, as, ts⟩ := c
      simp only at hcal
      subst hcal
      exact absurd (by rw [hop]; rfl) hc
    · exact h.elim
  case h_11 _ op t x y yt hop =>
    cases he : T.eq t with
    | some e => exact absurd (by rw [hop]; simp [cls, he]) hc
    | none => exact fin1 (one_of (one_wbin he (fun e a b c ht => absurd (by rw [hop]; simp [cls, he, ht]) hc)) h)
  case h_8 _ t x hop =>
    obtain ⟨v, h1, h2⟩ := one_of one_wload h
    exact ⟨v, h1, fun K' hk => h2 hp K' hk, fun h => by rw [hop] at h; exact absurd h (by simp [cls])⟩
  case h_19 _ t x i hop =>
    obtain ⟨v, h1, h2⟩ := one_of one_windexAddr h
    exact ⟨v, h1, fun K' hk => h2 hp K' hk, fun h => by rw [hop] at h; exact absurd h (by simp [cls])⟩
  case h_16 _ t x lo hi hop =>
    cases ht : T.ti t with
    | none => exact absurd (by rw [hop]; simp [cls, ht]) hc
    | some ti =>
      obtain ⟨kd, n, b, z⟩ := ti
      cases kd with
      | string => exact fin1 (slice_string ht h)
      | _ => exact absurd (by rw [hop]; simp [cls, ht]) hc
  case h_25 => exact h.elim
  all_goals rename_i hop
  all_goals first
    | exact absurd (by rw [hop]; rfl) hc
    | exact fin1 ⟨_, h, fun _ _ h => h⟩
    | exact fin1 (one_of one_wbuild h)
    | exact fin1 (one_of one_wfieldAddr h)
    | exact fin1 (one_of one_wfield h)
    | exact fin1 (one_of one_windex h)
    | exact fin1 (one_of one_wun h)
    | exact fin1 (one_of one_wconv h)
    | exact fin1 (one_of one_wnil h)
    | (split at h <;> (try split at h) <;> first | exact fin1 ⟨_, h, fun _ _ h => h⟩ | exact ⟨_, h.2, fun _ h' => ⟨h.1, h'⟩, fun _ _ _ h' => ⟨h.1, h'⟩⟩ | exact h.elim)
end one

/-! ### One operation, calls and guards included -/
/-- a call of a function of the program -/
inductive CallW (P : Unit → Program) (K : FuncId) (args : List A) (H : AHeap) (R : A → AHeap → Prop) : Prop
  | mk (h : VCalls (P ()) K args H R)
theorem CallW_eq (P : Unit → Program) (K : FuncId) (args : List A) (H : AHeap) (R : A → AHeap → Prop) : CallW P K args H R = VCalls (P ()) K args H R := propext ⟨fun ⟨h⟩ => h, .mk⟩

def wopR (P : Unit → Program) (T : Unit → Tab) (o : Oper) (tm : List A) (hp : AHeap) (K : A → AHeap → Prop) : Prop :=
  match o.op with
  | .call ⟨.value f, args, _⟩ =>
    match ev tm f with
    | .clo k first caps => (T ()).fn k = true ∧ CallW P k (first ++ args.toList.map (ev tm) ++ caps) hp K
    | _ => False
  | _ => wprim (T ()) o tm hp K

def gdst (all : List Oper) (j : Nat) : Option Nat :=
  match getL (all.map some) j none with
  | some o => o.dst
  | none => none

/-- a guard's yield -/
def yieldA (all : List Oper) (j : Nat) (tm : List A) : Option (Option Bool) :=
  match gdst all j with
  | some d => match getL tm d .undef with
    | .d (.bool b) => some (some b)
    | .tup _ => some none
    | _ => none
  | none => none

def wopG (P : Unit → Program) (T : Unit → Tab) (all : List Oper) (o : Oper) (tm : List A) (hp : AHeap) (K : A → AHeap → Prop) : Prop :=
  match o.guard with
  | none => wopR P T o tm hp K
  | some (j, want) =>
    match yieldA all j tm with
    | some (some b) => (match Bool.same b want with
      | true => wopR P T o tm hp K
      | false => K (.tup []) hp)
    | some none => K (.tup []) hp
    | none => False

/-- what an operation reads -/
def opnds : Op → List Operand
  | .move x | .assign x | .box _ x | .load _ x | .nilCheck x | .unOp _ _ x | .convert _ _ x | .fieldAddr _ x _ | .field _ x _ | .range _ x | .next x _ | .extract x _ => [x]
  | .pick a b c => [a, b, c]
  | .build _ ps | .buildSlice _ _ ps => ps.toList.map (·.2)
  | .store _ x y | .binOp _ _ x y _ | .makeSlice _ x y | .indexAddr _ x y | .index _ x y => [x, y]
  | .makeFunc _ a b => a.toList ++ b.toList
  | .slice _ x lo hi _ => x :: (lo.toList ++ hi.toList)
  | .call ⟨.value f, args, _⟩ => f :: args.toList
  | .call ⟨_, args, _⟩ => args.toList
  | _ => []

def hasT : List Operand → Nat → Bool
  | [], _ => false
  | .tmp t :: r, d => (match Nat.beq t d with
    | true => true
    | false => hasT r d)
  | _ :: r, d => hasT r d

def isD : Option Nat → Nat → Bool
  | some t, d => Nat.beq t d
  | none, _ => false

def looksAt (all : List Oper) (o : Oper) (d : Nat) : Bool :=
  match hasT (opnds o.op) d with
  | true => true
  | false => match o.guard with
    | some (j, _) => isD (gdst all j) d
    | none => false

theorem hasT_mem : ∀ {l : List Operand} {d : Nat}, hasT l d = false → ∀ x ∈ l, x ≠ .tmp d
  | [], _, _, x, hx => by cases hx
  | y :: r, d, h, x, hx => by
    cases y with
    | tmp t =>
      simp only [hasT] at h
      split at h
      · cases h
      · rename_i hb
        cases hx with
        | head => intro e; cases e; rw [Nat.beq_refl] at hb; cases hb
        | tail _ hx => exact hasT_mem h x hx
    | _ => cases hx with
      | head => intro e; cases e
      | tail _ hx => exact hasT_mem (by simpa [hasT] using h) x hx

theorem ev_setL {tm : List A} {d : Nat} {v : A} {x : Operand} (h : x ≠ .tmp d) : ev (setL tm d v) x = ev tm x := by
  cases x with
  | tmp t =>
    have hne : d ≠ t := fun e => h (by rw [e])
    simp only [ev, getL_eq, setL_eq]
    simp [List.getD_eq_getElem?_getD, List.getElem?_set_ne hne]
  | _ => rfl

theorem wopR_congr {P : Unit → Program} {T : Unit → Tab} {o : Oper} {tm tm' : List A} {hp : AHeap} {K : A → AHeap → Prop} (h : ∀ x ∈ opnds o.op, ev tm x = ev tm' x) : wopR P T o tm hp K = wopR P T o tm' hp K := by
  have maps : ∀ l : List Operand, (∀ x ∈ l, ev tm x = ev tm' x) → l.map (ev tm) = l.map (ev tm') := fun l hl => List.map_congr_left hl
  have pairs : ∀ ps : List (Nat × Operand), (∀ x ∈ ps.map (·.2), ev tm x = ev tm' x) → (ps.map fun (i, x) => (i, ev tm x)) = (ps.map fun (i, x) => (i, ev tm' x)) := fun ps hp =>
    List.map_congr_left fun p hm => by
      obtain ⟨i, x⟩ := p
      simp only [hp x (List.mem_map.2 ⟨(i, x), hm, rfl⟩)]
  obtain ⟨dst, op, type, pos, after, guard⟩ := o
  cases op
  case call c =>
    obtain ⟨cal, args, ts⟩ := c
    cases cal with
    | value f =>
      simp only [opnds] at h
      simp only [wopR]
      rw [h f (by simp), maps args.toList fun x hx => h x (by simp [hx])]
    | builtin b =>
      simp only [opnds] at h
      simp only [wopR, wprim]
      cases b <;> first
        | rfl
        | (rcases args with ⟨_ | ⟨x, _ | ⟨y, _ | ⟨z, r⟩⟩⟩⟩ <;> rcases ts with ⟨_ | ⟨t1, _ | ⟨t2, _ | ⟨t3, r3⟩⟩⟩⟩ <;> simp_all)
    | _ => rfl
  case build t ps => simp only [opnds] at h; simp only [wopR, wprim]; rw [pairs _ h]
  case buildSlice t n ps => simp only [opnds] at h; simp only [wopR, wprim]; rw [pairs _ h]
  case makeFunc f a b =>
    simp only [opnds] at h
    cases f <;> simp only [wopR, wprim]
    rw [maps _ fun x hx => h x (by simp only [List.mem_append]; exact .inl hx), maps _ fun x hx => h x (by simp only [List.mem_append]; exact .inr hx)]
  case slice t x lo hi mx => cases lo <;> cases hi <;> cases mx <;> simp_all [opnds, wopR, wprim]
  case next x b => cases b <;> simp_all [opnds, wopR, wprim]
  all_goals first
    | rfl
    | (simp_all [opnds, wopR, wprim]; done)

theorem put_put {tm : List A} {x y : Option Nat} {v u : A} (h : ∀ d, x = some d → y ≠ some d) : put (put tm x v) y u = put (put tm y u) x v := by
  cases x with
  | none => rfl
  | some d => cases y with
    | none => rfl
    | some e =>
      have hne : d ≠ e := fun he => h d rfl (by rw [he])
      simp only [put, setL_eq]
      exact List.set_comm _ _ hne

def readsNot (all : List Oper) (o : Oper) (x : Option Nat) : Prop := ∀ d, x = some d → looksAt all o d = false

theorem wopG_put {P : Unit → Program} {T : Unit → Tab} {all : List Oper} {o : Oper} {tm : List A} {hp : AHeap} {K : A → AHeap → Prop} {x : Option Nat} {v : A} (h : readsNot all o x) : wopG P T all o (put tm x v) hp K = wopG P T all o tm hp K := by
  cases x with
  | none => rfl
  | some d =>
    have h := h d rfl
    unfold looksAt at h
    split at h
    · cases h
    · rename_i h1
      have e1 : wopR P T o (put tm (some d) v) hp K = wopR P T o tm hp K := wopR_congr fun x hx => ev_setL (hasT_mem h1 x hx)
      unfold wopG
      split at h
      · rename_i j want hg
        have e2 : yieldA all j (put tm (some d) v) = yieldA all j tm := by
          unfold yieldA
          cases hd : gdst all j with
          | none => rfl
          | some t =>
            have hne : d ≠ t := fun e => by
              rw [hd, e] at h
              simp [isD] at h
            simp only [put, getL_eq, setL_eq]
            simp [List.getD_eq_getElem?_getD, List.getElem?_set_ne hne]
        simp only [hg, e2, e1]
      · rename_i hg
        simp only [hg, e1]

theorem wopG_mono {P : Unit → Program} {T : Unit → Tab} (he : ∀ t e xs ys Q Q', (T ()).eq t = some e → (∀ a, Q a → Q' a) → e xs ys Q → e xs ys Q') {all : List Oper} {o : Oper} {tm : List A} {hp : AHeap} {K K' : A → AHeap → Prop} (hk : ∀ a h, K a h → K' a h) (h : wopG P T all o tm hp K) : wopG P T all o tm hp K' := by
  have hR : wopR P T o tm hp K → wopR P T o tm hp K' := fun h => by
    unfold wopR at h ⊢
    split at h
    · split at h
      · rw [CallW_eq] at h ⊢
        exact ⟨h.1, h.2.mono hk⟩
      · exact h
    · exact wprim_mono hk he h
  unfold wopG at h ⊢
  split at h
  · exact hR h
  · split at h
    · split at h
      · exact hR h
      · exact hk _ _ h
    · exact hk _ _ h
    · exact h

theorem one_wopG {P : Unit → Program} {T : Unit → Tab} {all : List Oper} {o : Oper} {tm : List A} {hp : AHeap} {K : A → AHeap → Prop} (hc : cls (T ()) o.op ≠ 0) (h : wopG P T all o tm hp K) :
    ∃ v, K v hp ∧ (∀ K', K' v hp → wopG P T all o tm hp K') ∧ (cls (T ()) o.op = 1 → ∀ hp' K', K' v hp' → wopG P T all o tm hp' K') := by
  have hR : ∀ hp' K', wopR P T o tm hp' K' = wprim (T ()) o tm hp' K' := fun hp' K' => by
    unfold wopR
    split
    · rename_i heq
      rw [heq] at hc
      exact absurd rfl hc
    · rfl
  unfold wopG at h ⊢
  split at h
  · simp only [hR] at h ⊢
    exact one_wprim hc h
  · split at h
    · split at h
      · simp only [hR] at h ⊢
        exact one_wprim hc h
      · exact ⟨_, h, fun _ h => h, fun _ _ _ h => h⟩
    · exact ⟨_, h, fun _ h => h, fun _ _ _ h => h⟩
    · exact h.elim
end Go.VM

/- Regions that draw the order of their operations: every order, looked at once where the order does not matter. -/
set_option linter.unusedSimpArgs false
set_option linter.unusedVariables false
set_option linter.unusedSectionVars false
namespace Go.VM
open Ops
variable [Ops] [Glb] [Lim]

def edgeOk (listed : List Bool) (e : Edge) : Bool :=
  match e.ground with
  | .textOnly _ | .gcOnly _ => true
  | _ => getL listed e.on false

def edgesOk (listed : List Bool) : List Edge → Bool
  | [] => true
  | e :: r => match edgeOk listed e with
    | true => edgesOk listed r
    | false => false

def rdy (listed : List Bool) (i : Nat) (o : Oper) : Bool :=
  match getL listed i true with
  | true => false
  | false => edgesOk listed o.after.toList

/-- an edge on i that binds -/
def onI (i : Nat) : List Edge → Bool
  | [] => false
  | e :: r => match e.ground with
    | .textOnly _ | .gcOnly _ => onI i r
    | _ => match Nat.beq e.on i with
      | true => true
      | false => onI i r

def apartB (all : List Oper) (x y : Oper) : Bool :=
  (match x.dst with
  | some d => (match looksAt all y d with | true => false | false => !isD y.dst d)
  | none => true) &&
  (match y.dst with
  | some d => !looksAt all x d
  | none => true)

def freeB (T : Tab) (all : List Oper) (listed : List Bool) (i : Nat) (x : Oper) : Nat → List Oper → Bool
  | _, [] => true
  | j, y :: r => (match Nat.beq j i with
    | true => true
    | false => match getL listed j true with
      | true => true
      | false => match onI i y.after.toList with
        | true => true
        | false => apartB all x y && (Nat.beq (cls T x.op) 1 || !Nat.beq (cls T y.op) 0)) && freeB T all listed i x (j + 1) r

def findI (f : Nat → Oper → Bool) : Nat → List Oper → Option (Nat × Oper)
  | _, [] => none
  | i, o :: r => match f i o with
    | true => some (i, o)
    | false => findI f (i + 1) r

def eachI (f : Nat → Oper → Bool) (g : Nat → Oper → Prop) : Nat → List Oper → Prop
  | _, [] => True
  | i, o :: r => match f i o with
    | true => g i o ∧ eachI f g (i + 1) r
    | false => eachI f g (i + 1) r

def quiet (T : Tab) (all : List Oper) (listed : List Bool) (i : Nat) (o : Oper) : Bool :=
  match rdy listed i o with
  | false => false
  | true => match Nat.beq (cls T o.op) 0 with
    | true => false
    | false => freeB T all listed i o 0 all

/-- a binding edge on i, or on what waits for i -/
def onDep (dep : List Bool) (i : Nat) : List Edge → Bool
  | [] => false
  | e :: r => match e.ground with
    | .textOnly _ | .gcOnly _ => onDep dep i r
    | _ => match Nat.beq e.on i with
      | true => true
      | false => match getL dep e.on false with
        | true => true
        | false => onDep dep i r
def snocB : List Bool → Bool → List Bool
  | [], b => [b]
  | x :: r, b => x :: snocB r b
/-- what waits for i, straight or through others -/
def depsL (i : Nat) : List Bool → List Oper → List Bool
  | acc, [] => acc
  | acc, o :: r => depsL i (snocB acc (onDep acc i o.after.toList)) r
def depFree : List Bool → List Bool → Bool
  | true :: r, l => match l with
    | true :: _ => false
    | false :: l => depFree r l
    | [] => depFree r []
  | false :: r, l => match l with
    | _ :: l => depFree r l
    | [] => depFree r []
  | [], _ => true
def freeD (T : Tab) (all : List Oper) (listed dep : List Bool) (i : Nat) (x : Oper) : Nat → List Oper → Bool
  | _, [] => true
  | j, y :: r => (match Nat.beq j i with
    | true => true
    | false => match getL listed j true with
      | true => true
      | false => match getL dep j false with
        | true => true
        | false => apartB all x y && (Nat.beq (cls T x.op) 1 || !Nat.beq (cls T y.op) 0)) && freeD T all listed dep i x (j + 1) r
/-- quiet, with an eye on what waits through others -/
def quiet2 (T : Tab) (all : List Oper) (listed : List Bool) (i : Nat) (o : Oper) : Bool :=
  match rdy listed i o with
  | false => false
  | true => match Nat.beq (cls T o.op) 0 with
    | true => false
    | false => match depFree (depsL i [] all) listed with
      | false => false
      | true => freeD T all listed (depsL i [] all) i o 0 all

def wdraw (P : Unit → Program) (T : Unit → Tab) (all : List Oper) : Nat → List Bool → St → (St → Prop) → Prop
  | 0, listed, σ, K => match findI (rdy listed) 0 all with
    | none => K σ
    | some _ => False
  | f + 1, listed, σ, K => match findI (quiet (T ()) all listed) 0 all with
    | some (i, o) => wopG P T all o σ.tm σ.hp (fun r hp => wdraw P T all f (setL listed i true) ⟨put σ.tm o.dst r, hp⟩ K)
    | none => match findI (quiet2 (T ()) all listed) 0 all with
      | some (i, o) => wopG P T all o σ.tm σ.hp (fun r hp => wdraw P T all f (setL listed i true) ⟨put σ.tm o.dst r, hp⟩ K)
      | none => match findI (rdy listed) 0 all with
        | none => K σ
        | some _ => eachI (rdy listed) (fun i o => wopG P T all o σ.tm σ.hp (fun r hp => wdraw P T all f (setL listed i true) ⟨put σ.tm o.dst r, hp⟩ K)) 0 all

/-- every order -/
def wany (P : Unit → Program) (T : Unit → Tab) (all : List Oper) : Nat → List Bool → St → (St → Prop) → Prop
  | 0, listed, σ, K => (∀ i o, all[i]? = some o → rdy listed i o = false) ∧ K σ
  | f + 1, listed, σ, K => ((∀ i o, all[i]? = some o → rdy listed i o = false) → K σ) ∧
    ∀ i o, all[i]? = some o → rdy listed i o = true → wopG P T all o σ.tm σ.hp (fun r hp => wany P T all f (setL listed i true) ⟨put σ.tm o.dst r, hp⟩ K)

theorem findI_none {f : Nat → Oper → Bool} : ∀ {l : List Oper} {k : Nat}, findI f k l = none → ∀ i o, l[i]? = some o → f (k + i) o = false
  | [], _, _, i, o, h => by simp at h
  | x :: r, k, hn, i, o, h => by
    simp only [findI] at hn
    split at hn
    · cases hn
    · rename_i hx
      cases i with
      | zero => simp at h; subst h; exact hx
      | succ i => rw [show k + (i + 1) = k + 1 + i by omega]; exact findI_none hn i o (by simpa using h)

theorem findI_some {f : Nat → Oper → Bool} : ∀ {l : List Oper} {k i : Nat} {o : Oper}, findI f k l = some (i, o) → k ≤ i ∧ l[i - k]? = some o ∧ f i o = true
  | [], _, _, _, h => by cases h
  | x :: r, k, i, o, h => by
    simp only [findI] at h
    split at h
    · rename_i hx
      cases h
      exact ⟨Nat.le_refl _, by simp, hx⟩
    · obtain ⟨h1, h2, h3⟩ := findI_some h
      refine ⟨by omega, ?_, h3⟩
      rw [show i - k = i - (k + 1) + 1 by omega]
      simpa using h2

theorem eachI_all {f : Nat → Oper → Bool} {g : Nat → Oper → Prop} : ∀ {l : List Oper} {k : Nat}, eachI f g k l → ∀ i o, l[i]? = some o → f (k + i) o = true → g (k + i) o
  | [], _, _, i, o, h, _ => by simp at h
  | x :: r, k, he, i, o, h, hf => by
    simp only [eachI] at he
    cases i with
    | zero =>
      simp at h; subst h
      rw [show f k x = true from hf] at he
      exact he.1
    | succ i =>
      rw [show k + (i + 1) = k + 1 + i by omega] at hf ⊢
      split at he
      · exact eachI_all he.2 i o (by simpa using h) hf
      · exact eachI_all he i o (by simpa using h) hf

theorem freeB_spec {T : Tab} {all : List Oper} {listed : List Bool} {i : Nat} {x : Oper} : ∀ {l : List Oper} {k : Nat}, freeB T all listed i x k l = true → ∀ j y, l[j]? = some y → k + j ≠ i → getL listed (k + j) true = false → onI i y.after.toList = false → apartB all x y = true ∧ (cls T x.op = 1 ∨ cls T y.op ≠ 0)
  | [], _, _, j, y, h, _, _, _ => by simp at h
  | z :: r, k, hf, j, y, h, hne, hun, hon => by
    simp only [freeB, Bool.and_eq_true] at hf
    cases j with
    | zero =>
      simp at h; subst h
      have hf := hf.1
      have hb : Nat.beq k i = false := by
        cases hb : Nat.beq k i with
        | false => rfl
        | true => exact absurd (Nat.eq_of_beq_eq_true hb) hne
      simp only [Nat.add_zero] at hun
      simp only [hb, hun, hon, Bool.and_eq_true, Bool.or_eq_true, Bool.not_eq_true', Nat.beq_eq] at hf
      refine ⟨hf.1, hf.2.imp id fun h => ?_⟩
      intro e
      rw [e] at h
      cases h
    | succ j =>
      exact freeB_spec hf.2 j y (by simpa using h) (by omega) (by rw [show k + 1 + j = k + (j + 1) by omega]; exact hun) hon

theorem freeD_spec {T : Tab} {all : List Oper} {listed dep : List Bool} {i : Nat} {x : Oper} : ∀ {l : List Oper} {k : Nat}, freeD T all listed dep i x k l = true → ∀ j y, l[j]? = some y → k + j ≠ i → getL listed (k + j) true = false → getL dep (k + j) false = false → apartB all x y = true ∧ (cls T x.op = 1 ∨ cls T y.op ≠ 0)
  | [], _, _, j, y, h, _, _, _ => by simp at h
  | z :: r, k, hf, j, y, h, hne, hun, hon => by
    simp only [freeD, Bool.and_eq_true] at hf
    cases j with
    | zero =>
      simp at h; subst h
      have hf := hf.1
      have hb : Nat.beq k i = false := by
        cases hb : Nat.beq k i with
        | false => rfl
        | true => exact absurd (Nat.eq_of_beq_eq_true hb) hne
      simp only [Nat.add_zero] at hun hon
      simp only [hb, hun, hon, Bool.and_eq_true, Bool.or_eq_true, Bool.not_eq_true', Nat.beq_eq] at hf
      refine ⟨hf.1, hf.2.imp id fun h => ?_⟩
      intro e
      rw [e] at h
      cases h
    | succ j =>
      exact freeD_spec hf.2 j y (by simpa using h) (by omega) (by rw [show k + 1 + j = k + (j + 1) by omega]; exact hun) (by rw [show k + 1 + j = k + (j + 1) by omega]; exact hon)
theorem snocB_eq (l : List Bool) (b : Bool) : snocB l b = l ++ [b] := by
  induction l with
  | nil => rfl
  | cons x r ih => simp [snocB, ih]
theorem onDep_mono {dep dep' : List Bool} {i : Nat} (h : ∀ z, getL dep z false = true → getL dep' z false = true) : ∀ {es : List Edge}, onDep dep i es = true → onDep dep' i es = true
  | [], h2 => by cases h2
  | e :: r, h2 => by
    have ih := onDep_mono (i := i) h (es := r)
    unfold onDep at h2 ⊢
    cases hg : e.ground <;> simp only [hg] at h2 ⊢ <;> (try exact ih h2)
    all_goals
      cases hb : Nat.beq e.on i with
      | true => rfl
      | false =>
        simp only [hb] at h2 ⊢
        cases hd : getL dep e.on false with
        | true => rw [h _ hd]
        | false =>
          simp only [hd] at h2
          cases getL dep' e.on false with
          | true => rfl
          | false => exact ih h2
theorem depsL_ge (i : Nat) : ∀ (r : List Oper) (acc : List Bool) (z : Nat), z < acc.length → getL (depsL i acc r) z false = getL acc z false
  | [], acc, z, hz => rfl
  | o :: r, acc, z, hz => by
    rw [depsL, depsL_ge i r _ z (by rw [snocB_eq]; simp; omega), snocB_eq]
    simp only [getL_eq, List.getD_eq_getElem?_getD]
    rw [List.getElem?_append_left hz]
theorem depsL_spec (i : Nat) : ∀ (r : List Oper) (acc : List Bool) (j : Nat) (y : Oper), r[j]? = some y → getL (depsL i acc r) (acc.length + j) false = true → onDep (depsL i acc r) i y.after.toList = true
  | [], acc, j, y, h, _ => by simp at h
  | o :: r, acc, j, y, h, hd => by
    cases j with
    | zero =>
      simp at h; subst h
      rw [depsL] at hd ⊢
      rw [Nat.add_zero, depsL_ge i r _ acc.length (by rw [snocB_eq]; simp)] at hd
      have h1 : onDep acc i o.after.toList = true := by
        rw [snocB_eq] at hd
        simpa [getL_eq, List.getD_eq_getElem?_getD] using hd
      refine onDep_mono (fun z hz => ?_) h1
      have hlt : z < acc.length := by
        rcases Nat.lt_or_ge z acc.length with h' | h'
        · exact h'
        · simp [getL_eq, List.getD_eq_getElem?_getD, List.getElem?_eq_none h'] at hz
      rw [depsL_ge i r _ z (by rw [snocB_eq]; simp; omega), snocB_eq]
      simp only [getL_eq, List.getD_eq_getElem?_getD] at hz ⊢
      rw [List.getElem?_append_left hlt]
      exact hz
    | succ j =>
      rw [depsL] at hd ⊢
      refine depsL_spec i r _ j y (by simpa using h) ?_
      rw [snocB_eq] at hd ⊢
      rw [show (acc ++ [onDep acc i o.after.toList]).length + j = acc.length + (j + 1) by simp; omega]
      exact hd
theorem depFree_spec : ∀ {dep listed : List Bool}, depFree dep listed = true → ∀ z, getL dep z false = true → getL listed z false = false
  | [], l, _, z, hz => by simp [getL_eq] at hz
  | true :: r, l, h, z, hz => by
    match l, h with
    | false :: l, h =>
      cases z with
      | zero => rfl
      | succ z => exact depFree_spec (dep := r) (listed := l) h z (by simpa [getL] using hz)
    | [], h => simp [getL_eq]
  | false :: r, l, h, z, hz => by
    match l, h with
    | x :: l, h =>
      cases z with
      | zero => simp [getL] at hz
      | succ z => exact depFree_spec (dep := r) (listed := l) h z (by simpa [getL] using hz)
    | [], h => simp [getL_eq]

theorem getL_setL_ne {l : List Bool} {i j : Nat} {d : Bool} (h : i ≠ j) : getL (setL l i true) j d = getL l j d := by
  simp only [getL_eq, setL_eq]
  simp [List.getD_eq_getElem?_getD, List.getElem?_set_ne h]

theorem getL_setL_true {l : List Bool} {i j : Nat} (h : getL l j false = true) : getL (setL l i true) j false = true := by
  by_cases e : i = j
  · subst e
    simp only [getL_eq, setL_eq, List.getD_eq_getElem?_getD] at h ⊢
    have hlt : i < l.length := by
      rcases Nat.lt_or_ge i l.length with h' | h'
      · exact h'
      · simp [List.getElem?_eq_none h'] at h
    simp [List.getElem?_set, hlt]
  · rw [getL_setL_ne e]; exact h

theorem edgesOk_mono {l : List Bool} {i : Nat} : ∀ {es : List Edge}, edgesOk l es = true → edgesOk (setL l i true) es = true
  | [], _ => rfl
  | e :: r, h => by
    simp only [edgesOk] at h ⊢
    split at h
    · rename_i he
      have : edgeOk (setL l i true) e = true := by
        unfold edgeOk at he ⊢
        split at he
        · rfl
        · rfl
        · exact getL_setL_true he
      rw [this]
      exact edgesOk_mono h
    · cases h

theorem rdy_mono {l : List Bool} {i j : Nat} {o : Oper} (h : rdy l j o = true) (hne : i ≠ j) : rdy (setL l i true) j o = true := by
  unfold rdy at h ⊢
  rw [getL_setL_ne hne]
  split at h
  · cases h
  · exact edgesOk_mono h

/-- what is ready waits for nothing that is not listed -/
theorem onI_rdy {l : List Bool} {i : Nat} (hi : getL l i true = false) : ∀ {es : List Edge}, edgesOk l es = true → onI i es = false
  | [], _ => rfl
  | e :: r, h => by
    simp only [edgesOk] at h
    split at h
    · rename_i he
      have ih := onI_rdy hi h
      unfold onI
      split
      · exact ih
      · exact ih
      · rename_i h1 h2
        split
        · rename_i hb
          have hb := Nat.eq_of_beq_eq_true hb
          have : getL l e.on false = true := by
            unfold edgeOk at he
            split at he
            · rename_i d hd; exact absurd hd (h1 d)
            · rename_i d hd; exact absurd hd (h2 d)
            · exact he
          rw [hb] at this
          simp only [getL_eq, List.getD_eq_getElem?_getD] at this hi
          cases hq : l[i]? <;> simp_all
        · exact ih
    · cases h

theorem onDep_rdy {l dep : List Bool} {i : Nat} (hi : getL l i true = false) (hd : ∀ z, getL dep z false = true → getL l z false = false) : ∀ {es : List Edge}, edgesOk l es = true → onDep dep i es = false
  | [], _ => rfl
  | e :: r, h => by
    simp only [edgesOk] at h
    split at h
    · rename_i he
      have ih := onDep_rdy hi hd h
      unfold onDep
      split
      · exact ih
      · exact ih
      · rename_i h1 h2
        have hl : getL l e.on false = true := by
          unfold edgeOk at he
          split at he
          · rename_i d hd; exact absurd hd (h1 d)
          · rename_i d hd; exact absurd hd (h2 d)
          · exact he
        split
        · rename_i hb
          have hb := Nat.eq_of_beq_eq_true hb
          rw [hb] at hl
          simp only [getL_eq, List.getD_eq_getElem?_getD] at hl hi
          cases hq : l[i]? <;> simp_all
        · split
          · rename_i hz
            rw [hd _ hz] at hl
            cases hl
          · exact ih
    · cases h

section
variable {P : Unit → Program} {T : Unit → Tab} {all : List Oper}

/-- operation o gives v, now and while no one else changes what it reads -/
def Gives (P : Unit → Program) (T : Unit → Tab) (all : List Oper) (o : Oper) (v : A) (tm : List A) (hp : AHeap) : Prop :=
  (∀ K', K' v hp → wopG P T all o tm hp K') ∧ (cls (T ()) o.op = 1 → ∀ hp' K', K' v hp' → wopG P T all o tm hp' K')

theorem apartB_spec {x y : Oper} (h : apartB all x y = true) : readsNot all y x.dst ∧ (∀ d, x.dst = some d → y.dst ≠ some d) ∧ readsNot all x y.dst := by
  unfold apartB at h
  rw [Bool.and_eq_true] at h
  refine ⟨fun d hd => ?_, fun d hd => ?_, fun d hd => ?_⟩
  · have h := h.1
    rw [hd] at h
    dsimp only at h
    split at h
    · cases h
    · assumption
  · have h := h.1
    rw [hd] at h
    dsimp only at h
    split at h
    · cases h
    · intro e
      rw [e] at h
      simp [isD] at h
  · have h := h.2
    rw [hd] at h
    simpa using h

theorem Gives.put {o : Oper} {v : A} {tm : List A} {hp hp' : AHeap} (h : Gives P T all o v tm hp) {x : Option Nat} {u : A} (hr : readsNot all o x) (hh : cls (T ()) o.op = 1 ∨ hp' = hp) : Gives P T all o v (put tm x u) hp' := by
  refine ⟨fun K' hk => ?_, fun hc hp'' K' hk => ?_⟩
  · rw [wopG_put hr]
    rcases hh with hc | rfl
    · exact h.2 hc _ _ hk
    · exact h.1 _ hk
  · rw [wopG_put hr]
    exact h.2 hc _ _ hk

theorem wany_first (he : ∀ t e xs ys Q Q', (T ()).eq t = some e → (∀ a, Q a → Q' a) → e xs ys Q → e xs ys Q') {i : Nat} {oi : Oper} {v : A} (hi : all[i]? = some oi) {K : St → Prop} :
    ∀ (f : Nat) (listed : List Bool) (tm : List A) (hp : AHeap),
      (∀ j y, all[j]? = some y → j ≠ i → getL listed j true = false → onI i y.after.toList = false → apartB all oi y = true ∧ (cls (T ()) oi.op = 1 ∨ cls (T ()) y.op ≠ 0)) →
      rdy listed i oi = true → Gives P T all oi v tm hp →
      wany P T all f (setL listed i true) ⟨put tm oi.dst v, hp⟩ K → wany P T all (f + 1) listed ⟨tm, hp⟩ K := by
  intro f
  induction f with
  | zero =>
    intro listed tm hp _ hr hg H
    refine ⟨fun h => (by rw [h i oi hi] at hr; cases hr), fun j o hj hrj => ?_⟩
    by_cases hji : j = i
    · subst hji
      rw [hi] at hj; cases hj
      exact hg.1 _ H
    · have := H.1 j o hj
      rw [rdy_mono hrj (Ne.symm hji)] at this
      cases this
  | succ f ih =>
    intro listed tm hp hfree hr hg H
    refine ⟨fun h => (by rw [h i oi hi] at hr; cases hr), fun j oj hj hrj => ?_⟩
    by_cases hji : j = i
    · subst hji
      rw [hi] at hj; cases hj
      exact hg.1 _ H
    · have h1 := H.2 j oj hj (rdy_mono hrj (Ne.symm hji))
      dsimp only at h1 ⊢
      have hli : getL listed i true = false := by
        unfold rdy at hr
        split at hr
        · cases hr
        · assumption
      have hlj : getL listed j true = false := by
        unfold rdy at hrj
        split at hrj
        · cases hrj
        · assumption
      have hon : onI i oj.after.toList = false := onI_rdy hli (by
        unfold rdy at hrj
        rw [hlj] at hrj
        exact hrj)
      obtain ⟨hap, hcl⟩ := hfree j oj hj hji hlj hon
      obtain ⟨a1, a2, a3⟩ := apartB_spec hap
      rw [wopG_put a1] at h1
      have step : ∀ r hp', (cls (T ()) oi.op = 1 ∨ hp' = hp) → wany P T all f (setL (setL listed i true) j true) ⟨put (put tm oi.dst v) oj.dst r, hp'⟩ K → wany P T all (f + 1) (setL listed j true) ⟨put tm oj.dst r, hp'⟩ K := by
        intro r hp' hh h3
        refine ih (setL listed j true) (put tm oj.dst r) hp' ?_ (rdy_mono hr hji) (hg.put a3 hh) ?_
        · intro k y hk hki hun hno
          refine hfree k y hk hki ?_ hno
          by_cases hjk : j = k
          · subst hjk; exact hlj
          · rw [getL_setL_ne hjk] at hun; exact hun
        · rw [← put_put a2]
          have : setL (setL listed j true) i true = setL (setL listed i true) j true := by
            simp only [setL_eq]
            exact List.set_comm _ _ hji
          rw [this]
          exact h3
      rcases hcl with hcl | hcl
      · exact wopG_mono he (fun r hp' h => step r hp' (.inl hcl) h) h1
      · obtain ⟨u, h2, h3, -⟩ := one_wopG hcl h1
        exact h3 _ (step u hp (.inr rfl) h2)

theorem wany_first2 {dep : List Bool} (he : ∀ t e xs ys Q Q', (T ()).eq t = some e → (∀ a, Q a → Q' a) → e xs ys Q → e xs ys Q') {i : Nat} {oi : Oper} {v : A} (hi : all[i]? = some oi) {K : St → Prop} :
    ∀ (f : Nat) (listed : List Bool) (tm : List A) (hp : AHeap),
      (∀ j y, all[j]? = some y → getL dep j false = true → onDep dep i y.after.toList = true) → (∀ z, getL dep z false = true → getL listed z false = false) →
      (∀ j y, all[j]? = some y → j ≠ i → getL listed j true = false → getL dep j false = false → apartB all oi y = true ∧ (cls (T ()) oi.op = 1 ∨ cls (T ()) y.op ≠ 0)) →
      rdy listed i oi = true → Gives P T all oi v tm hp →
      wany P T all f (setL listed i true) ⟨put tm oi.dst v, hp⟩ K → wany P T all (f + 1) listed ⟨tm, hp⟩ K := by
  intro f
  induction f with
  | zero =>
    intro listed tm hp _ _ _ hr hg H
    refine ⟨fun h => (by rw [h i oi hi] at hr; cases hr), fun j o hj hrj => ?_⟩
    by_cases hji : j = i
    · subst hji
      rw [hi] at hj; cases hj
      exact hg.1 _ H
    · have := H.1 j o hj
      rw [rdy_mono hrj (Ne.symm hji)] at this
      cases this
  | succ f ih =>
    intro listed tm hp hdep hnd hfree hr hg H
    refine ⟨fun h => (by rw [h i oi hi] at hr; cases hr), fun j oj hj hrj => ?_⟩
    by_cases hji : j = i
    · subst hji
      rw [hi] at hj; cases hj
      exact hg.1 _ H
    · have h1 := H.2 j oj hj (rdy_mono hrj (Ne.symm hji))
      dsimp only at h1 ⊢
      have hli : getL listed i true = false := by
        unfold rdy at hr
        split at hr
        · cases hr
        · assumption
      have hlj : getL listed j true = false := by
        unfold rdy at hrj
        split at hrj
        · cases hrj
        · assumption
      have hon : onDep dep i oj.after.toList = false := onDep_rdy hli hnd (by
        unfold rdy at hrj
        rw [hlj] at hrj
        exact hrj)
      have hon : getL dep j false = false := by
        cases hdj : getL dep j false with
        | false => rfl
        | true => rw [hdep j oj hj hdj] at hon; cases hon
      obtain ⟨hap, hcl⟩ := hfree j oj hj hji hlj hon
      obtain ⟨a1, a2, a3⟩ := apartB_spec hap
      rw [wopG_put a1] at h1
      have step : ∀ r hp', (cls (T ()) oi.op = 1 ∨ hp' = hp) → wany P T all f (setL (setL listed i true) j true) ⟨put (put tm oi.dst v) oj.dst r, hp'⟩ K → wany P T all (f + 1) (setL listed j true) ⟨put tm oj.dst r, hp'⟩ K := by
        intro r hp' hh h3
        refine ih (setL listed j true) (put tm oj.dst r) hp' hdep (fun z hz => by
          have hjz : j ≠ z := fun e => by rw [← e, hon] at hz; cases hz
          rw [getL_setL_ne hjz]
          exact hnd z hz) ?_ (rdy_mono hr hji) (hg.put a3 hh) ?_
        · intro k y hk hki hun hno
          refine hfree k y hk hki ?_ hno
          by_cases hjk : j = k
          · subst hjk; exact hlj
          · rw [getL_setL_ne hjk] at hun; exact hun
        · rw [← put_put a2]
          have : setL (setL listed j true) i true = setL (setL listed i true) j true := by
            simp only [setL_eq]
            exact List.set_comm _ _ hji
          rw [this]
          exact h3
      rcases hcl with hcl | hcl
      · exact wopG_mono he (fun r hp' h => step r hp' (.inl hcl) h) h1
      · obtain ⟨u, h2, h3, -⟩ := one_wopG hcl h1
        exact h3 _ (step u hp (.inr rfl) h2)

theorem wany_of_draw (he : ∀ t e xs ys Q Q', (T ()).eq t = some e → (∀ a, Q a → Q' a) → e xs ys Q → e xs ys Q') {K : St → Prop} : ∀ (f : Nat) (listed : List Bool) (σ : St), wdraw P T all f listed σ K → wany P T all f listed σ K
  | 0, listed, σ, h => by
    unfold wdraw at h
    split at h
    · rename_i hn
      exact ⟨fun i o ho => by simpa using findI_none hn i o ho, h⟩
    · exact h.elim
  | f + 1, listed, σ, h => by
    unfold wdraw at h
    split at h
    · rename_i i o hf
      obtain ⟨-, h1, h2⟩ := findI_some hf
      rw [Nat.sub_zero] at h1
      unfold quiet at h2
      split at h2
      · cases h2
      · rename_i hr
        split at h2
        · cases h2
        · rename_i hc
          have hc : cls (T ()) o.op ≠ 0 := fun e => by rw [e] at hc; cases hc
          obtain ⟨v, k1, k2, k3⟩ := one_wopG hc h
          refine wany_first he h1 f listed σ.tm σ.hp ?_ hr ⟨k2, k3⟩ (wany_of_draw he f _ _ k1)
          intro j y hj hne hun hon
          exact freeB_spec h2 j y hj (by simpa using hne) (by simpa using hun) hon
    · split at h
      · rename_i i o hf
        obtain ⟨-, h1, h2⟩ := findI_some hf
        rw [Nat.sub_zero] at h1
        unfold quiet2 at h2
        split at h2
        · cases h2
        · rename_i hr
          split at h2
          · cases h2
          · rename_i hc
            split at h2
            · cases h2
            · rename_i hdf
              have hc : cls (T ()) o.op ≠ 0 := fun e => by rw [e] at hc; cases hc
              obtain ⟨v, k1, k2, k3⟩ := one_wopG hc h
              refine wany_first2 (dep := depsL i [] all) he h1 f listed σ.tm σ.hp ?_ (depFree_spec hdf) ?_ hr ⟨k2, k3⟩ (wany_of_draw he f _ _ k1)
              · intro j y hj hd
                exact depsL_spec i all [] j y hj (by simpa using hd)
              · intro j y hj hne hun hon
                exact freeD_spec h2 j y hj (by simpa using hne) (by simpa using hun) (by simpa using hon)
      · split at h
        · rename_i hn
          refine ⟨fun _ => h, fun i o ho hr => ?_⟩
          have := findI_none hn i o ho
          rw [Nat.zero_add, hr] at this
          cases this
        · rename_i io hs
          obtain ⟨i, o⟩ := io
          obtain ⟨-, h1, h2⟩ := findI_some hs
          refine ⟨fun hno => ?_, fun j y hj hr => ?_⟩
          · rw [hno i o (by simpa using h1)] at h2; cases h2
          · have := eachI_all h j y hj (by simpa using hr)
            rw [Nat.zero_add] at this
            exact wopG_mono he (fun r hp h => wany_of_draw he f _ _ h) this
end
end Go.VM

/- The weakest precondition of a code, computed; a function's contract out of its body. -/
set_option linter.unusedSimpArgs false
set_option linter.unusedVariables false
set_option linter.unusedSectionVars false
namespace Go.VM
open Ops
variable [Ops] [Glb] [Lim]

def wop (P : Unit → Program) (T : Unit → Tab) (o : Oper) (σ : St) (K : St → Prop) : Prop :=
  wopR P T o σ.tm σ.hp (fun r hp => K ⟨put σ.tm o.dst r, hp⟩)

def wops (P : Unit → Program) (T : Unit → Tab) (all : List Oper) : List Oper → St → (St → Prop) → Prop
  | [], σ, K => K σ
  | o :: rest, σ, K => wopG P T all o σ.tm σ.hp (fun r hp => wops P T all rest ⟨put σ.tm o.dst r, hp⟩ K)

inductive LoopVW (P : Unit → Program) (n : Nat) (c : Code) (Q : Ex → St → Prop) (σ : St) : Prop
  | mk (h : ∀ lim : Lim, @VW _ lim (P ()) n (.loop c) Q σ)
theorem LoopVW_eq (P : Unit → Program) (n : Nat) (c : Code) (Q : Ex → St → Prop) (σ : St) : LoopVW P n c Q σ = ∀ lim : Lim, @VW _ lim (P ()) n (.loop c) Q σ := propext ⟨fun ⟨h⟩ => h, .mk⟩
def noneL : List Oper → List Bool
  | [] => []
  | _ :: r => false :: noneL r

/-- THE WEAKEST PRECONDITION. It stops at loops, and at regions that draw their order. -/
def W (P : Unit → Program) (T : Unit → Tab) (n : Nat) : Code → (Ex → St → Prop) → St → Prop
  | .skip, Q, σ => Q .normal σ
  | .region id ops draw, Q, σ => match draw with
    | false => wops P T ops.toList ops.toList σ (Q .normal)
    | true => wdraw P T ops.toList (lenL ops.toList) (noneL ops.toList) σ (Q .normal)
  | .seq a b, Q, σ => W P T n a (seqQ (W P T n b Q) Q) σ
  | .cond c a b, Q, σ => match ev σ.tm c with
    | .d (.bool t) => (match t with
      | true => W P T n a Q σ
      | false => W P T n b Q σ)
    | _ => False
  | .block id b, Q, σ => W P T n b (blockQ id Q) σ
  | .loop b, Q, σ => LoopVW P n b Q σ
  | .exit id, Q, σ => Q (.exit id) σ
  | .ret, Q, σ => Q .ret σ
  | _, _, _ => False

variable {P : Program} {T : Tab} {Pf : Unit → Program} {Tf : Unit → Tab} {n : Nat}

theorem getD_append_list (xs ys : List Value) (k : Nat) (d : Value) : (xs ++ ys).getD k d = if k < xs.length then xs.getD k d else ys.getD (k - xs.length) d := by
  simp only [List.getD_eq_getElem?_getD, List.getElem?_append]
  split <;> rfl

theorem RepL.append {w : World} {I : Nat → Nat → Prop} {ι : Nat → Option Nat} {H : AHeap} {vs vs' : List Value} {xs xs' : List A} (h : RepL w I ι H vs xs) (h' : RepL w I ι H vs' xs') : RepL w I ι H (vs ++ vs') (xs ++ xs') := by
  refine ⟨by simp [h.1, h'.1], fun k hk => ?_⟩
  rw [List.length_append] at hk
  rw [getD_append_list]
  have e : (xs ++ xs').getD k A.undef = if k < xs.length then xs.getD k .undef else xs'.getD (k - xs.length) .undef := by
    simp only [List.getD_eq_getElem?_getD, List.getElem?_append]
    split <;> rfl
  rw [e, h.1]
  split
  · exact h.2 k ‹_›
  · exact h'.2 _ (by omega)

theorem Keep.goes {B : Gd} {w0 w w' : World} {I0 I I' : Nat → Nat → Prop} {ι0 ι ι' : Nat → Option Nat} {H0 H H' : AHeap} (k : Keep B w0 I0 ι0 H0 w I ι H) (g : Goes w w' I I' ι ι' H H') (hb : Below B w w') : Keep B w0 I0 ι0 H0 w' I' ι' H' :=
  ⟨k.below.trans hb, fun b i h => (g.same b i (k.imm b i h)).trans (k.same b i h), fun b i h => g.imm b i (k.imm b i h), Nat.le_trans k.len g.len, fun v x h => (k.rep v x h).goes g⟩

theorem Keep.trans {B : Gd} {w0 w w' : World} {I0 I I' : Nat → Nat → Prop} {ι0 ι ι' : Nat → Option Nat} {H0 H H' : AHeap} (k : Keep B w0 I0 ι0 H0 w I ι H) (g : Keep B w I ι H w' I' ι' H') : Keep B w0 I0 ι0 H0 w' I' ι' H' :=
  ⟨k.below.trans g.below, fun b i h => (g.same b i (k.imm b i h)).trans (k.same b i h), fun b i h => g.imm b i (k.imm b i h), Nat.le_trans k.len g.len, fun v x h => g.rep v x (k.rep v x h)⟩

theorem wop_ok (hT : TabOk (Pf ()) (Tf ())) {E : Entry} {ι : Nat → Option Nat} {I : Nat → Nat → Prop} {a : Act} {w : World} {σ : St} {o : Oper} {K : St → Prop} (hi : Inv E ι I a w σ) (h : wop Pf Tf o σ K) (next : Act → World → Prop) (Q : Exit → Act → World → Prop)
    (hn : ∀ ι' I' a' w' σ', K σ' → Inv E ι' I' a' w' σ' → next a' w') : o.wp (Pf ()) a w next Q := by
  unfold Oper.wp
  unfold wop wopR at h
  split at h
  · rename_i f args at_ ho
    split at h
    · rename_i k first caps hf
      obtain ⟨hfn, h⟩ := h
      obtain ⟨fn, e1, e2, e3⟩ := hT.fn k hfn
      have hc := ev_rep hi.tm f
      rw [hf] at hc
      generalize hv : a.eval f = vf at hc
      cases hc with | clo _ fv cv _ _ l1 l2 r1 r2 =>
      obtain ⟨g1, g2⟩ := list_rep hi.tm args
      have hargs : RepL w I ι σ.hp (fv ++ (args.map a.eval).toList ++ cv) (first ++ args.toList.map (ev σ.tm) ++ caps) := RepL.append (RepL.append ⟨l1, r1⟩ ⟨g1, g2⟩) ⟨l2, r2⟩
      rw [CallW_eq] at h
      have hcall := h inferInstance E.B ι I w _ hi.rel hargs
      have hrun : (execOp a.eval o).run (Pf ()) w = .ok (.enter k (fv ++ (args.map a.eval).toList ++ cv).toArray) w := by
        have ha : (fv ++ (args.map a.eval).toList ++ cv).toArray = fv.toArray ++ args.map a.eval ++ cv.toArray := by
          apply Array.ext'
          simp
        rw [ha]
        have e2' : ¬ fn.body = none := fun h => by simp [h] at e2
        have e3' : ¬ fn.name = "runtime.NumGoroutine" := by simpa using e3
        simp [execOp, ho, resolve, hv, Deferred.ofValue, invoke, callFunc, e1, e2', e3']
      rw [hrun, Oper.upon_enter]
      refine hcall.mono ?_
      rintro e w' ⟨v, r, H', ι', I', rfl, hk, hrel, hrep, hkeep⟩
      refine hn ι' I' _ _ _ hk ⟨?_, ?_, hrel, hi.keep.trans hkeep⟩
      · have := hi.defers; cases o.dst <;> simpa [Act.put] using this
      · exact RepT.put ⟨hi.tm.1, fun t ht => hkeep.rep _ _ (hi.tm.2 t ht)⟩ o.dst hrep
    · exact h.elim
  · obtain ⟨nx, v, r, w', I', ι', H', h1, h2, h3, h4, h5, h6, h7⟩ := wprim_ok hT hi.rel hi.tm h
    rw [h1]
    have hfin : next (a.put o.dst v) w' := by
      refine hn ι' I' _ _ _ h3 ⟨?_, ?_, h5, hi.keep.goes h6 h7⟩
      · have := hi.defers; cases o.dst <;> simpa [Act.put] using this
      · exact (hi.tm.goes h6).put o.dst h4
    rcases h2 with rfl | ⟨rfl, rfl⟩
    · exact hfin
    · exact hfin

theorem yieldA_ok {w : World} {I : Nat → Nat → Prop} {ι : Nat → Option Nat} {H : AHeap} {a : Act} {tm : List A} (hi : RepT w I ι H a tm) {ops : Array Oper} {j : Nat} {b : Option Bool} (h : yieldA ops.toList j tm = some b) : yielded ops a.tmps j = b := by
  unfold yieldA at h
  split at h
  · rename_i d hgd
    unfold gdst at hgd
    rw [getL_eq] at hgd
    split at hgd
    · rename_i o ho
      have hd : o.dst = some d := hgd
      have ho' : ops[j]? = some o := by
        rw [List.getD_eq_getElem?_getD, List.getElem?_map] at ho
        cases hq : ops.toList[j]? with
        | none => simp [hq] at ho
        | some o' => simp [hq] at ho; subst ho; simpa using hq
      rw [getL_eq] at h
      have slot : ∀ x, tm.getD d .undef = x → x ≠ .undef → d < a.tmps.size ∧ RepA w I ι H (a.tmps.getD d undef) x := by
        intro x hx hne
        have hlt : d < tm.length := by
          rcases Nat.lt_or_ge d tm.length with h | h
          · exact h
          · rw [List.getD_eq_getElem?_getD, List.getElem?_eq_none h] at hx
            exact absurd hx.symm hne
        have := hi.2 d hlt
        rw [hx] at this
        exact ⟨by rw [hi.1]; exact hlt, this⟩
      split at h
      · rename_i b' hb
        obtain rfl := Option.some.inj h
        obtain ⟨hlt', hr⟩ := slot _ hb (by simp)
        have hv := rep_bool hr
        have hv' : a.tmps[d]? = some (.bool b') := by
          rw [Array.getElem?_eq_getElem hlt']
          simpa [Array.getD_eq_getD_getElem?, Array.getElem?_eq_getElem hlt'] using hv
        simp [yielded, ho', hd, hv']
      · rename_i xs hb
        obtain rfl := Option.some.inj h
        obtain ⟨hlt', hr⟩ := slot _ hb (by simp)
        generalize hv : a.tmps.getD d undef = v at hr
        cases hr with | tup vs _ h1 h2 =>
        have hv' : a.tmps[d]? = some (.tuple vs.toArray) := by
          rw [Array.getElem?_eq_getElem hlt']
          simpa [Array.getD_eq_getD_getElem?, Array.getElem?_eq_getElem hlt'] using hv
        simp [yielded, ho', hd, hv']
      · cases h
    · cases hgd
  · cases h

theorem Bool.same_eq (a b : Bool) : Bool.same a b = (a == b) := by cases a <;> cases b <;> rfl

theorem wopG_ok (hT : TabOk (Pf ()) (Tf ())) {E : Entry} {ι : Nat → Option Nat} {I : Nat → Nat → Prop} {a : Act} {w : World} {σ : St} {ops : Array Oper} {i : Nat} {o : Oper} {K : St → Prop} (hk : ops[i]? = some o) (hi : Inv E ι I a w σ)
    (h : wopG Pf Tf ops.toList o σ.tm σ.hp (fun r hp => K ⟨put σ.tm o.dst r, hp⟩)) (next : Act → World → Prop) (Q : Exit → Act → World → Prop) (hn : ∀ ι' I' a' w' σ', K σ' → Inv E ι' I' a' w' σ' → next a' w') : wpOp (Pf ()) ops Q i next a w := by
  unfold wpOp
  simp only [hk]
  unfold wopG at h
  split at h
  · rename_i hg
    have hw : Region.wanted o (yielded ops a.tmps) = true := by simp [Region.wanted, hg]
    rw [if_pos hw]
    exact .inl (wop_ok hT hi h _ _ hn)
  · rename_i j want hg
    split at h
    · rename_i b hb
      have hy := yieldA_ok hi.tm hb
      by_cases e : b = want
      · rw [show Bool.same b want = true by rw [Bool.same_eq]; simp [e]] at h
        have hw : Region.wanted o (yielded ops a.tmps) = true := by simp [Region.wanted, hg, hy, e]
        rw [if_pos hw]
        exact .inl (wop_ok hT hi h _ _ hn)
      · rw [show Bool.same b want = false by rw [Bool.same_eq]; simpa using e] at h
        have hw : ¬ Region.wanted o (yielded ops a.tmps) = true := by simp [Region.wanted, hg, hy, e]
        rw [if_neg hw]
        refine hn ι I _ _ _ h ⟨?_, hi.tm.put o.dst (.tup [] [] rfl (fun k hk => absurd hk (by simp))), hi.rel, hi.keep⟩
        have := hi.defers; cases o.dst <;> simpa [Act.put] using this
    · rename_i hb
      have hy := yieldA_ok hi.tm hb
      have hw : ¬ Region.wanted o (yielded ops a.tmps) = true := by simp [Region.wanted, hg, hy]
      rw [if_neg hw]
      refine hn ι I _ _ _ h ⟨?_, hi.tm.put o.dst (.tup [] [] rfl (fun k hk => absurd hk (by simp))), hi.rel, hi.keep⟩
      have := hi.defers; cases o.dst <;> simpa [Act.put] using this
    · exact h.elim

theorem wops_ok (hT : TabOk (Pf ()) (Tf ())) {E : Entry} {ops : Array Oper} {Q : Exit → Act → World → Prop} {K : St → Prop} (hK : ∀ ι I a w σ, K σ → Inv E ι I a w σ → Q .normal a w) :
    ∀ (l : List Oper) (k : Nat), ops.toList.drop k = l → ∀ {ι : Nat → Option Nat} {I : Nat → Nat → Prop} {a : Act} {w : World} {σ : St}, Inv E ι I a w σ → wops Pf Tf ops.toList l σ K → wpOps (Pf ()) ops Q (List.range' k l.length) a w
  | [], k, _, ι, I, a, w, σ, hi, h => hK ι I a w σ h hi
  | o :: l, k, hl, ι, I, a, w, σ, hi, h => by
    have hk : ops[k]? = some o := by
      have : (ops.toList.drop k)[0]? = some o := by rw [hl]; rfl
      simpa using this
    have hl' : ops.toList.drop (k + 1) = l := by
      rw [← List.tail_drop, hl]; rfl
    have ih := fun {ι I a w σ} => wops_ok hT hK l (k + 1) hl' (ι := ι) (I := I) (a := a) (w := w) (σ := σ)
    simp only [List.length_cons, List.range'_succ]
    rw [wpOps_cons]
    exact wopG_ok hT hk hi (K := fun σ' => wops Pf Tf ops.toList l σ' K) h _ _ (fun ι' I' a' w' σ' h1 h2 => ih h2 h1)

theorem edgesOk_eq {listed : List Bool} : ∀ (es : List Edge), edgesOk listed es = es.all fun e => !Region.binds .any e || listed.getD e.on false
  | [] => rfl
  | e :: r => by
    have he : edgeOk listed e = (!Region.binds .any e || listed.getD e.on false) := by
      unfold edgeOk Region.binds
      rw [getL_eq]
      split <;> rename_i hg <;> simp [*]
    simp only [edgesOk, List.all_cons, he, edgesOk_eq r]
    cases (!Region.binds .any e || listed.getD e.on false) <;> simp

theorem rdy_mem {ops : Array Oper} {listed : List Bool} {i : Nat} : i ∈ Region.ready .any ops listed.toArray ↔ ∃ o, ops.toList[i]? = some o ∧ rdy listed i o = true := by
  rw [mem_ready]
  constructor
  · rintro ⟨h1, o, h2, h3⟩
    refine ⟨o, by simpa using h2, ?_⟩
    unfold rdy
    rw [getL_eq, show listed.getD i true = false by simpa [Array.getD_eq_getD_getElem?, List.getD_eq_getElem?_getD] using h1]
    simp only [edgesOk_eq, List.all_eq_true, Bool.or_eq_true, Bool.not_eq_true']
    intro e he
    cases hb : Region.binds .any e with
    | false => exact .inl rfl
    | true => exact .inr (by simpa [Array.getD_eq_getD_getElem?, List.getD_eq_getElem?_getD] using h3 e (by simpa using he) hb)
  · rintro ⟨o, h2, h3⟩
    unfold rdy at h3
    rw [getL_eq] at h3
    split at h3
    · cases h3
    · rename_i h1
      refine ⟨by simpa [Array.getD_eq_getD_getElem?, List.getD_eq_getElem?_getD] using h1, o, by simpa using h2, fun e he hb => ?_⟩
      simp only [edgesOk_eq, List.all_eq_true, Bool.or_eq_true, Bool.not_eq_true'] at h3
      have := h3 e (by simpa using he)
      rw [hb] at this
      simpa [Array.getD_eq_getD_getElem?, List.getD_eq_getElem?_getD] using this

theorem wany_ok (hT : TabOk (Pf ()) (Tf ())) {E : Entry} {ops : Array Oper} {Q : Exit → Act → World → Prop} {K : St → Prop} (hK : ∀ ι I a w σ, K σ → Inv E ι I a w σ → Q .normal a w) :
    ∀ (f : Nat) (listed : List Bool) {ι : Nat → Option Nat} {I : Nat → Nat → Prop} {a : Act} {w : World} {σ : St}, Inv E ι I a w σ → wany Pf Tf ops.toList f listed σ K → wpAny (Pf ()) .any ops Q f listed.toArray a w := by
  have none_of : ∀ listed : List Bool, Region.ready .any ops listed.toArray = [] → ∀ i o, ops.toList[i]? = some o → rdy listed i o = false := fun listed h i o ho => by
    cases hr : rdy listed i o with
    | false => rfl
    | true =>
      have := (rdy_mem (listed := listed)).2 ⟨o, ho, hr⟩
      rw [h] at this
      cases this
  intro f
  induction f with
  | zero =>
    intro listed ι I a w σ hi h
    refine ⟨?_, hK _ _ _ _ _ h.2 hi⟩
    apply List.eq_nil_iff_forall_not_mem.2
    intro i hm
    obtain ⟨o, h1, h2⟩ := rdy_mem.1 hm
    rw [h.1 i o h1] at h2
    cases h2
  | succ f ih =>
    intro listed ι I a w σ hi h
    refine ⟨fun hr => hK _ _ _ _ _ (h.1 (none_of listed hr)) hi, fun i hm => ?_⟩
    obtain ⟨o, h1, h2⟩ := rdy_mem.1 hm
    have := h.2 i o h1 h2
    refine wopG_ok hT (by simpa using h1) hi (K := fun σ' => wany Pf Tf ops.toList f (setL listed i true) σ' K) this _ _ (fun ι' I' a' w' σ' h3 h4 => ?_)
    have := ih _ h4 h3
    rw [setL_eq] at this
    simpa using this

theorem Inv.drawn {E : Entry} {ι : Nat → Option Nat} {I : Nat → Nat → Prop} {a : Act} {w : World} {σ : St} (h : Inv E ι I a w σ) (k : Nat) : Inv E ι I a { w with drawn := k } σ := by
  have g : Goes w { w with drawn := k } I I ι ι σ.hp σ.hp := ⟨fun _ _ _ => rfl, fun _ _ h => h, Nat.le_refl _, fun o off len sz v _ h => h, fun o cs _ h hbx => ⟨⟨_, h, hbx⟩, rfl⟩, fun o n sz get fz _ h => ⟨_, _, _, h, Nat.le_refl _, fun _ => rfl⟩, fun o s p _ h => ⟨⟨_, _, h⟩, rfl⟩⟩
  have gb : Goes { w with drawn := k } w I I ι ι σ.hp σ.hp := ⟨fun _ _ _ => rfl, fun _ _ h => h, Nat.le_refl _, fun o off len sz v _ h => h, fun o cs _ h hbx => ⟨⟨_, h, hbx⟩, rfl⟩, fun o n sz get fz _ h => ⟨_, _, _, h, Nat.le_refl _, fun _ => rfl⟩, fun o s p _ h => ⟨⟨_, _, h⟩, rfl⟩⟩
  exact ⟨h.defers, h.tm.goes g, Rel.heap (w := w) (w' := { w with drawn := k }) rfl h.rel, h.keep.goes g ⟨rfl, rfl, rfl, Nat.le_refl _, fun _ _ _ => rfl⟩⟩

theorem noneL_eq : ∀ l : List Oper, noneL l = List.replicate l.length false
  | [] => rfl
  | _ :: r => by simp [noneL, noneL_eq r, List.replicate_succ]

theorem W_ok (hT : TabOk (Pf ()) (Tf ())) : ∀ (c : Code) (Q : Ex → St → Prop) (σ : St), W Pf Tf n c Q σ → VW (Pf ()) n c Q σ
  | .skip, Q, σ, h => VW_skip h
  | .region id ops draw, Q, σ, h => by
    cases draw with
    | false =>
      intro E ι I a w hn hi
      refine wp_region ?_
      have := wops_ok hT (E := E) (ops := ops) (Q := Post E Q) (K := Q .normal) (fun ι I a w σ h1 h2 => ⟨.normal, σ, ι, I, .normal, h1, h2⟩) ops.toList 0 rfl hi h
      rw [List.range_eq_range']
      simpa using this
    | true =>
      intro E ι I a w hn hi
      refine wp_region_any hT.mixed ?_
      have h1 := wany_of_draw hT.mono (lenL ops.toList) (noneL ops.toList) σ h
      have := wany_ok hT (E := E) (ops := ops) (Q := Post E Q) (K := Q .normal) (fun ι I a w σ h1 h2 => ⟨.normal, σ, ι, I, .normal, h1, h2⟩) _ _ (hi.drawn (w.drawn + 1)) h1
      rw [lenL_eq, noneL_eq] at this
      simpa using this
  | .seq a b, Q, σ, h => VW_seq ((W_ok hT a _ σ h).mono fun e s hs => by
      cases e with
      | normal => exact W_ok hT b Q s hs
      | exit id => exact hs
      | ret => exact hs)
  | .cond c a b, Q, σ, h => by
    unfold W at h
    split at h
    · rename_i t ht
      cases t with
      | true => exact VW_cond ht (fun e => W_ok hT a Q σ h) (fun e => by cases e)
      | false => exact VW_cond ht (fun e => by cases e) (fun e => W_ok hT b Q σ h)
    · exact h.elim
  | .block id b, Q, σ, h => VW_block (W_ok hT b _ σ h)
  | .loop b, Q, σ, h => by
    have h : LoopVW Pf n b Q σ := h
    rw [LoopVW_eq] at h
    exact h inferInstance
  | .exit id, Q, σ, h => VW_exit h
  | .ret, Q, σ, h => VW_ret h
  | .rangeFunc .., Q, σ, h => h.elim
  | .scope .., Q, σ, h => h.elim
  | .label .., Q, σ, h => h.elim
  | .goto .., Q, σ, h => h.elim
  | .refuse .., Q, σ, h => h.elim

/-! ### A function's results, and its contract -/
def wres1 (T : Tab) (tm : List A) (hp : AHeap) : ResultVar → (A → Prop) → Prop
  | .tmp t, K => K (getL tm t .undef)
  | .cell t ty, K => wload T ty (getL tm t .undef) hp K

def wresL (T : Tab) (tm : List A) (hp : AHeap) : List ResultVar → (List A → Prop) → Prop
  | [], K => K []
  | x :: r, K => wres1 T tm hp x (fun a => wresL T tm hp r (fun l => K (a :: l)))

def wres (T : Tab) (l : List ResultVar) (tm : List A) (hp : AHeap) (K : A → Prop) : Prop :=
  match l with
  | [x] => wres1 T tm hp x K
  | l => wresL T tm hp l (fun as => K (.tup as))

def resOne (tmps : Array Value) : ResultVar → Sem Value
  | .tmp t => pure (tmps.getD t undef)
  | .cell a t => do loadVar t (← asAddr (tmps.getD a undef))

theorem results_eq (fn : Func) (tmps : Array Value) : results fn tmps = (do
    let vs ← fn.results.mapM (resOne tmps)
    pure (if h : vs.size = 1 then vs[0] else .tuple vs)) := by
  unfold results
  congr 1

theorem wres1_ok (hT : TabOk P T) {B : Gd} {w : World} {I : Nat → Nat → Prop} {ι : Nat → Option Nat} {H : AHeap} {a : Act} {tm : List A} (r : Rel B ι I w H) (ha : RepT w I ι H a tm) (x : ResultVar) {K : A → Prop} (h : wres1 T tm H x K) :
    ∃ v y, (resOne a.tmps x).run P w = .ok v w ∧ RepA w I ι H v y ∧ K y := by
  cases x with
  | tmp t => exact ⟨_, _, rfl, ev_rep ha (.tmp t), h⟩
  | cell p t =>
    obtain ⟨v, y, h1, h2, h3⟩ := wload_pure hT r (ev_rep ha (.tmp p)) h
    refine ⟨v, y, ?_, h2, h3⟩
    have e : a.eval (.tmp p) = a.tmps.getD p undef := rfl
    rw [e] at h1
    have : ∀ x, (Instr.loadAt t x).run P w = .ok v w → (do loadVar t (← asAddr x) : Sem Value).run P w = .ok v w := fun x hx => by
      cases x with
      | pointer q =>
        cases q with
        | none => simp [Instr.loadAt, Instr.sureAddr] at hx
        | some q => simpa [Instr.loadAt, Instr.sureAddr, asAddr] using hx
      | _ => simp [Instr.loadAt, Instr.sureAddr] at hx
    exact this _ h1

theorem wresL_ok (hT : TabOk P T) {B : Gd} {w : World} {I : Nat → Nat → Prop} {ι : Nat → Option Nat} {H : AHeap} {a : Act} {tm : List A} (r : Rel B ι I w H) (ha : RepT w I ι H a tm) : ∀ (l : List ResultVar) {K : List A → Prop} (h : wresL T tm H l K),
    ∃ vs ys, (l.mapM (resOne a.tmps)).run P w = .ok vs w ∧ RepL w I ι H vs ys ∧ K ys ∧ vs.length = l.length
  | [], K, h => ⟨[], [], rfl, ⟨rfl, fun k hk => absurd hk (by simp)⟩, h, rfl⟩
  | x :: l, K, h => by
    obtain ⟨v, y, h1, h2, h3⟩ := wres1_ok hT r ha x h
    obtain ⟨vs, ys, g1, g2, g3, g4⟩ := wresL_ok hT r ha l h3
    refine ⟨v :: vs, y :: ys, ?_, ⟨by simp [g2.1], fun k hk => ?_⟩, g3, by simp [g4]⟩
    · rw [List.mapM_cons, Sem.run_bind, h1, Result.andThen_ok, Sem.run_bind, g1, Result.andThen_ok]; rfl
    · cases k with
      | zero => simpa using h2
      | succ k => simpa using g2.2 k (by simpa using hk)

theorem wres_ok (hT : TabOk P T) {B : Gd} {w : World} {I : Nat → Nat → Prop} {ι : Nat → Option Nat} {H : AHeap} {a : Act} {tm : List A} (r : Rel B ι I w H) (ha : RepT w I ι H a tm) (fn : Func) {K : A → Prop} (h : wres T fn.results.toList tm H K) :
    ∃ v y, (results fn a.tmps).run P w = .ok v w ∧ RepA w I ι H v y ∧ K y := by
  have hmap : ∀ (vs : List Value), (fn.results.toList.mapM (resOne a.tmps)).run P w = .ok vs w →
      (results fn a.tmps).run P w = .ok (if h : vs.toArray.size = 1 then vs.toArray[0] else .tuple vs.toArray) w := by
    intro vs hvs
    rw [results_eq, Sem.run_bind, Array.mapM_eq_mapM_toList, Sem.run_map, hvs]
    rfl
  unfold wres at h
  split at h
  · rename_i x hx
    obtain ⟨v, y, h1, h2, h3⟩ := wres1_ok hT r ha x h
    refine ⟨v, y, ?_, h2, h3⟩
    rw [hmap [v] ?_]
    · simp
    · rw [hx, List.mapM_cons, Sem.run_bind, h1, Result.andThen_ok]; rfl
  · rename_i hx
    obtain ⟨vs, ys, g1, g2, g3, g4⟩ := wresL_ok hT r ha _ h
    refine ⟨.tuple vs.toArray, .tup ys, ?_, .tup vs ys g2.1 g2.2, g3⟩
    rw [hmap vs g1, dif_neg]
    intro hc
    have : fn.results.toList.length = 1 := by rw [← g4]; simpa using hc
    obtain ⟨x, hx'⟩ := List.length_eq_one_iff.1 this
    exact hx x hx'

def retQ (T : Unit → Tab) (l : List ResultVar) (R : A → AHeap → Prop) : Ex → St → Prop
  | .normal, σ => wres (T ()) l σ.tm σ.hp (fun a => R a σ.hp)
  | .ret, σ => wres (T ()) l σ.tm σ.hp (fun a => R a σ.hp)
  | _, _ => False

def bodyOf (f : Func) : Code := match f.body with
  | some c => c
  | none => .refuse ""

/-- the slots at the entry -/
def slots (args : List A) : Nat → List A
  | 0 => args
  | n + 1 => match args with
    | [] => .undef :: slots [] n
    | a :: r => a :: slots r n

theorem slots_eq : ∀ (n : Nat) (args : List A), args.length ≤ n → slots args n = args ++ List.replicate (n - args.length) .undef
  | 0, args, h => by have : args = [] := List.eq_nil_of_length_eq_zero (by omega); subst this; rfl
  | n + 1, [], h => by
    simp only [slots, slots_eq n [] (by simp)]
    simp [List.replicate_succ]
  | n + 1, a :: r, h => by
    simp only [slots, slots_eq n r (by simpa using h)]
    simp

omit [Lim] in
/-- A CONTRACT out of the function's body. -/
theorem VCalls_of_VW (hT : TabOk P (Tf ())) {K : FuncId} {fn : Func} (hf : P.funcs[K]? = some fn) (hb : fn.body.isSome = true) {args : List A} {H : AHeap} {R : A → AHeap → Prop} (hl : lenL args ≤ fn.ntmps)
    (h : ∀ [Lim], VW P H.length (bodyOf fn) (retQ Tf fn.results.toList R) ⟨slots args fn.ntmps, H⟩) : VCalls P K args H R := by
  intro lim B ι I w vs hrel hargs
  obtain ⟨c, hc⟩ := Option.isSome_iff_exists.1 hb
  rw [lenL_eq] at hl
  refine calls_of_wp hf hc ?_
  have hbody : bodyOf fn = c := by simp [bodyOf, hc]
  rw [hbody] at h
  have hvl := hargs.1
  refine wp_mono (h ⟨B, w, I, ι, H⟩ ι I _ w rfl ⟨rfl, ⟨?_, fun t ht => ?_⟩, hrel, ⟨.refl _ _, fun _ _ _ => rfl, fun _ _ h => h, Nat.le_refl _, fun _ _ h => h⟩⟩) ?_
  · rw [slots_eq _ _ hl]; simp [hvl]
  · rw [slots_eq _ _ hl] at ht ⊢
    simp only [List.length_append, List.length_replicate] at ht
    by_cases hta : t < args.length
    · have := hargs.2 t hta
      have e1 : (args ++ List.replicate (fn.ntmps - args.length) A.undef).getD t .undef = args.getD t .undef := by
        simp [List.getD_eq_getElem?_getD, List.getElem?_append, hta]
      have e2 : (vs.toArray ++ Array.replicate (fn.ntmps - vs.toArray.size) undef).getD t undef = vs.getD t undef := by
        simp [Array.getD_eq_getD_getElem?, List.getD_eq_getElem?_getD, Array.getElem?_append, hvl, hta]
      rw [e1, e2]; exact this
    · have e1 : (args ++ List.replicate (fn.ntmps - args.length) A.undef).getD t .undef = .undef := by
        simp only [List.getD_eq_getElem?_getD, List.getElem?_append, hta, if_false, List.getElem?_replicate]
        split <;> rfl
      rw [e1]; exact .undef _
  · rintro e a' w' ⟨ex, σ', ι', I', h1, h2, h3⟩
    have fin : retQ Tf fn.results.toList R .ret σ' → a'.defers = [] ∧ ∃ v, (results fn a'.tmps).run P w' = .ok v w' ∧
        ∃ v2 r H' ι' I', Ending.returned v = .returned v2 ∧ R r H' ∧ Rel B ι' I' w' H' ∧ RepA w' I' ι' H' v2 r ∧ Keep B w I ι H w' I' ι' H' := fun h2 => by
      obtain ⟨v, y, g1, g2, g3⟩ := wres_ok hT h3.rel h3.tm fn h2
      exact ⟨h3.defers, v, g1, v, y, σ'.hp, ι', I', rfl, g3, h3.rel, g2, h3.keep⟩
    cases h1 with
    | normal => exact fin h2
    | exit id => exact h2.elim
    | ret => exact fin h2

omit [Ops] [Lim] in
/-- out of the evaluated body, whatever the words are; R' stands for the contract's postcondition, so that evaluation leaves it closed -/
theorem VCalls_of_W {Tf : ∀ [Ops], Unit → Tab} (hT : ∀ [Ops], TabOk (Pf ()) (Tf ())) {K : FuncId} {fn : Func} (hf : (Pf ()).funcs[K]? = some fn) (hb : fn.body.isSome = true) {args : List A} {H : AHeap} {R : A → AHeap → Prop} (hl : lenL args ≤ fn.ntmps)
    (h : ∀ [Ops] (n : Nat) (R' : A → AHeap → Prop), H.length = n → (∀ r H', R r H' → R' r H') → W Pf Tf n (bodyOf fn) (retQ Tf fn.results.toList R') ⟨slots args fn.ntmps, H⟩) : VCalls (Pf ()) K args H R :=
  Ops.exists_one.elim fun inst => VCalls_of_VW (Tf := Tf) hT hf hb hl fun {_} => W_ok hT _ _ _ (h _ R rfl fun _ _ h => h)

end Go.VM

/- Using the logic: loops, what a step leaves, and how the words are read back. -/
set_option linter.unusedSimpArgs false
set_option linter.unusedVariables false
set_option linter.unusedSectionVars false
namespace Go.VM

variable [Glb] {Pf : Unit → Program} {n : Nat}

/-- are all objects below m -/
def belA (m : Nat) : A → Bool
  | .ref o _ _ _ => Nat.blt o m
  | .ptr o _ => Nat.blt o m
  | .eptr o _ _ _ => Nat.blt o m
  | .itr o => Nat.blt o m
  | .clo _ xs ys => belAs m xs && belAs m ys
  | .agg xs => belAs m xs
  | .tup xs => belAs m xs
  | _ => true
where belAs (m : Nat) : List A → Bool
  | [] => true
  | x :: r => belA m x && belAs m r

def belO (m : Nat) : AObj → Bool
  | .box cs => belA.belAs m cs
  | _ => true

def belH (m : Nat) : AHeap → Bool
  | [] => true
  | x :: r => belO m x && belH m r

def belS (σ : St) : Bool := belA.belAs (lenL σ.hp) σ.tm && belH (lenL σ.hp) σ.hp

mutual
theorem belA_ok {m : Nat} : ∀ {x : A}, belA m x = true → Bel m x
  | .d x, _ => .d x
  | .nils, _ => .nils
  | .ref o off len sz, h => .ref o off len sz (by simpa [belA] using h)
  | .ptr o off, h => .ptr o off (by simpa [belA] using h)
  | .eptr o i j len, h => .eptr o i j len (by simpa [belA] using h)
  | .iptr g i j sz, _ => .iptr g i j sz
  | .itr o, h => .itr o (by simpa [belA] using h)
  | .clo f xs ys, h => by
    simp only [belA, Bool.and_eq_true] at h
    exact .clo f xs ys (belAs_ok h.1) (belAs_ok h.2)
  | .agg xs, h => by
    simp only [belA] at h
    exact .agg xs (belAs_ok h)
  | .tup xs, h => by
    simp only [belA] at h
    exact .tup xs (belAs_ok h)
  | .undef, _ => .undef
theorem belAs_ok {m : Nat} : ∀ {xs : List A}, belA.belAs m xs = true → ∀ k, k < xs.length → Bel m (xs.getD k .undef)
  | [], _, k, hk => absurd hk (by simp)
  | x :: r, h, k, hk => by
    simp only [belA.belAs, Bool.and_eq_true] at h
    cases k with
    | zero => simpa using belA_ok h.1
    | succ k => simpa using belAs_ok h.2 k (by simpa using hk)
end

theorem belH_ok {m : Nat} : ∀ {H : AHeap}, belH m H = true → ∀ (o : Nat) (x : AObj), H[o]? = some x → BelO m x
  | [], _, o, x, h => by simp at h
  | y :: r, hb, o, x, h => by
    simp only [belH, Bool.and_eq_true] at hb
    cases o with
    | zero =>
      simp at h; subst h
      cases y <;> first | trivial | exact belAs_ok hb.1
    | succ o => exact belH_ok hb.2 o x (by simpa using h)

theorem lenL_length {α : Type} : ∀ l : List α, lenL l = l.length
  | [] => rfl
  | _ :: r => by simp [lenL, lenL_length r]

theorem belS_ok {σ : St} (h : belS σ = true) : BelS σ := by
  simp only [belS, Bool.and_eq_true, lenL_length] at h
  exact ⟨belAs_ok h.1, belH_ok h.2⟩

/-- THE LOOP: S y, the state at the loop's head, of ghosts y that are ok; m falls. -/
theorem loopV {Tf : ∀ [Ops], Unit → Tab} (hT : ∀ [Ops], TabOk (Pf ()) (Tf ())) {c : Code} {Q : Ex → St → Prop} {σ : St} {Y : Type} (S : Y → St) (m : Y → Nat) (ok : Y → Prop) (y0 : Y) (h0 : ok y0) (hle : leS n (S y0) σ) (hb : ∀ y, belS (S y) = true)
    (round : ∀ [Ops] (y : Y) (Bk : St → Prop), ok y → (∀ y' s', m y' < m y → ok y' → leS n (S y') s' → Bk s') → W Pf Tf n c (seqQ Bk Q) (S y)) : LoopVW Pf n c Q σ := by
  refine Ops.exists_one.elim fun inst => ⟨fun lim => ?_⟩
  refine VW_loop (fun k s => ∃ y, ok y ∧ m y = k ∧ s = S y) (m y0) ⟨S y0, hle, belS_ok (hb y0), y0, h0, rfl, rfl⟩ ?_
  rintro k s ⟨y, hy, rfl, rfl⟩
  refine W_ok (Tf := Tf) hT _ _ _ (round y _ hy ?_)
  intro y' s' hm hy' hle'
  exact ⟨m y', S y', hm, hle', belS_ok (hb y'), y', hy', rfl, rfl⟩

/-- slots: those listed, all others forgotten -/
def mk : Nat → List (Nat × A) → List A
  | 0, _ => []
  | n + 1, [] => .undef :: mk n []
  | n + 1, (0, a) :: r => a :: mk n (dec r)
  | n + 1, (k + 1, a) :: r => .undef :: mk n ((k, a) :: dec r)
where dec : List (Nat × A) → List (Nat × A)
  | [] => []
  | (k, a) :: r => (k - 1, a) :: dec r

theorem Deq.of_eq {x y : D} (h : x = y) : Deq x y := h ▸ .refl x
theorem leA_undef (x : A) : leA .undef x = True := rfl
theorem leL_undef (x : A) : leL .undef x = True := rfl
theorem leA_d (x y : D) : leA (.d x) (.d y) = Deq y x := propext ⟨fun ⟨z, h1, h2⟩ => by cases h1; exact h2, fun h => ⟨y, rfl, h⟩⟩
theorem leL_d (x y : D) : leL (.d x) (.d y) = Deq y x := propext ⟨fun ⟨z, h1, h2⟩ => by cases h1; exact h2, fun h => ⟨y, rfl, h⟩⟩
theorem exD (x y : D) : (∃ z, A.d x = A.d z ∧ Deq z y) = Deq x y := propext ⟨fun ⟨z, h1, h2⟩ => by cases h1; exact h2, fun h => ⟨x, rfl, h⟩⟩
theorem exL (xs : List A) (p : List A → Prop) : (∃ ys, A.agg xs = A.agg ys ∧ p ys) = p xs := propext ⟨fun ⟨z, h1, h2⟩ => by cases h1; exact h2, fun h => ⟨xs, rfl, h⟩⟩
theorem exT (xs : List A) (p : List A → Prop) : (∃ ys, A.tup xs = A.tup ys ∧ p ys) = p xs := propext ⟨fun ⟨z, h1, h2⟩ => by cases h1; exact h2, fun h => ⟨xs, rfl, h⟩⟩
theorem exA (n sz m sz' fz : Nat) (g : Nat → Nat → D) (p : (Nat → Nat → D) → Nat → Prop) : (∃ g' fz', AObj.arr n sz g fz = AObj.arr m sz' g' fz' ∧ p g' fz') = (n = m ∧ sz = sz' ∧ p g fz) := propext ⟨fun ⟨g', fz', h1, h2⟩ => by cases h1; exact ⟨rfl, rfl, h2⟩, fun ⟨h1, h2, h3⟩ => ⟨g, fz, by rw [h1, h2], h3⟩⟩
theorem exB (xs : List A) (p : List A → Prop) : (∃ ys, AObj.box xs = AObj.box ys ∧ p ys) = p xs := propext ⟨fun ⟨z, h1, h2⟩ => by cases h1; exact h2, fun h => ⟨xs, rfl, h⟩⟩
theorem deq_int (k k' : IntKind) (a b : Int) : Deq (.int k a) (.int k' b) = (k = k' ∧ a = b) := propext ⟨fun h => by cases h; exact ⟨rfl, rfl⟩, fun ⟨h1, h2⟩ => .of_eq (by rw [h1, h2])⟩
theorem deq_bool (a b : Bool) : Deq (.bool a) (.bool b) = (a = b) := propext ⟨fun h => by cases h; rfl, fun h => .of_eq (by rw [h])⟩
theorem deq_str (a b : ByteArray) : Deq (.str a) (.str b) = (a = b) := propext ⟨fun h => by cases h; rfl, fun h => .of_eq (by rw [h])⟩
theorem deq_refl (x : D) : Deq x x = True := propext ⟨fun _ => trivial, fun _ => .refl x⟩

end Go.VM

/- A nil slice, seen as an own slice of no elements. -/
set_option linter.unusedSimpArgs false
set_option linter.unusedVariables false
set_option linter.unusedSectionVars false
namespace Go.VM
variable [Glb]

theorem VW_ghost [Lim] {P : Program} {n : Nat} {c : Code} {Q : Ex → St → Prop} {σ : St} (d sz : Nat) (g : Nat → Nat → D) (hd : getL σ.tm d .undef = .nils)
    (h : VW P n c Q ⟨setL σ.tm d (.ref (lenL σ.hp) 0 0 sz), σ.hp ++ [.arr 0 sz g 0]⟩) : VW P n c Q σ := by
  refine Ops.exists_one.elim fun inst => ?_
  intro E ι I a w hn hi
  have gg := Goes.new (w := w) (w' := w) (fun _ _ => rfl) hi.rel.imm ι σ.hp (.arr 0 sz g 0) none
  refine h E (updι ι σ.hp.length none) I a w hn ⟨hi.defers, ⟨?_, fun t ht => ?_⟩, ?_, hi.keep.goes gg (.refl _ _)⟩
  · rw [setL_eq]
    simpa using hi.tm.1
  · rw [setL_eq] at ht ⊢
    simp only [List.length_set] at ht
    by_cases e : d = t
    · subst e
      have hv := hi.tm.2 d ht
      rw [getL_eq] at hd
      rw [hd] at hv
      generalize a.tmps.getD d undef = v at hv
      cases hv with | nils =>
      have : (σ.tm.set d (.ref (lenL σ.hp) 0 0 sz)).getD d .undef = .ref (lenL σ.hp) 0 0 sz := by simp [List.getD_eq_getElem?_getD, List.getElem?_set, ht]
      rw [this, lenL_length]
      refine .ref _ _ _ _ _ (by simp) (fun n' sz'' get'' fz' h _ => ?_) ⟨_, _, rfl⟩
      rw [List.getElem?_append_right (Nat.le_refl _)] at h
      simp at h
      obtain ⟨rfl, rfl, rfl, rfl⟩ := h
      exact ⟨by omega, fun _ => .inr (.inl ⟨by simp [updι], rfl, rfl⟩)⟩
    · have : (σ.tm.set d (.ref (lenL σ.hp) 0 0 sz)).getD t .undef = σ.tm.getD t .undef := by simp [List.getD_eq_getElem?_getD, List.getElem?_set_ne e]
      rw [this]
      exact (hi.tm.2 t ht).goes gg
  · refine hi.rel.new (Nat.le_refl _) (fun _ _ => rfl) _ _ (fun b' e => by cases e) ?_
    exact ⟨Nat.zero_le _, .inr ⟨by simp [updι], rfl⟩⟩

theorem loopGhost {Pf : Unit → Program} {n : Nat} {c : Code} {Q : Ex → St → Prop} {tm : List A} {hp : AHeap} (d sz : Nat) (hd : getL tm d .undef = .nils)
    (h : LoopVW Pf n c Q ⟨setL tm d (.ref (lenL hp) 0 0 sz), hp ++ [.arr 0 sz (fun _ _ => .nilp) 0]⟩) : LoopVW Pf n c Q ⟨tm, hp⟩ := by
  obtain ⟨h⟩ := h
  exact ⟨fun lim => VW_ghost d sz _ hd (h lim)⟩

end Go.VM
