/- Part of the proof: VM1, VN, VQ, VR. -/
import Derived.Test.YtfbecfnagidioaaGreatDoorGV2
/- All operations that call no function of the program, together. -/
set_option linter.unusedSimpArgs false
set_option linter.unusedVariables false
set_option linter.unusedSectionVars false
namespace Go.VM
open Ops
variable [Ops] [Glb] [Lim]

variable {P : Program} {T : Tab} {B : Gd} {ι : Nat → Option Nat} {I : Nat → Nat → Prop} {w : World} {H : AHeap}

theorem wnext_ok {x : A} {vx : Value} {Q : A → AHeap → Prop} (r : Rel B ι I w H) (hx : RepA w I ι H vx x) (h : wnext x H Q) (ty : TypeId) :
    StepsV P B (Instr.next vx true ty) w I ι H Q := by
  unfold wnext at h
  split at h
  · rename_i o
    simp only [getL_eq] at h
    split at h
    · rename_i s pos hob
      obtain ⟨h1, h2⟩ := h
      simp only [Imp_eq] at h1 h2
      have hob := getD_obj hob (by simp)
      cases hx with | itr _ _ ho hq hv =>
      obtain ⟨b, e1, rfl⟩ := hq s pos hob
      obtain ⟨b', e1', e2, e3⟩ := r.obj o _ hob
      obtain rfl : b = b' := by rw [e1] at e1'; exact Option.some.inj e1'
      by_cases hlt : pos < s.size
      · have hq := h1 (by simp [ltP_eq, nI_eq, lenS_eq, hlt])
        let w' : World := { w with heap := w.heap.setIfInBounds b (.stringIter s (pos + (Utf8.decode s pos).2)) }
        have hot : ∀ c, c ≠ b → w'.heap[c]? = w.heap[c]? := fun c hc => by
          show (w.heap.setIfInBounds b _)[c]? = _
          rw [Array.getElem?_setIfInBounds, if_neg (Ne.symm hc)]
        have hsame : Same I w w' := fun c k hk => by
          by_cases e : c = b
          · subst e
            unfold World.cell?
            have : w'.heap[c]? = some (.stringIter s (pos + (Utf8.decode s pos).2)) := by
              show (w.heap.setIfInBounds c _)[c]? = _
              rw [Array.getElem?_setIfInBounds]
              simp [lt_of_heap e3]
            rw [this, e3]
          · unfold World.cell?; rw [hot c e]
        have hgr : Grow w w' := fun c vs el fr hc => by
          by_cases e : c = b
          · subst e; rw [e3] at hc; cases hc
          · exact ⟨vs, el, fr, (hot c e).trans hc, rfl⟩
        have g : Goes w w' I I ι ι H (H.set o (.iter s (addN pos (width s pos)))) := Goes.set hsame (fun _ _ h => h) hgr hob trivial
        rw [setL_eq] at hq
        refine ⟨.tuple #[.bool true, goInt pos, .int .i32 (Utf8.decode s pos).1], _, w', I, ι, _, ?_, hq, ?_, ?_, g, ?_⟩
        · simp [Instr.next, getObj, Sem.run, e3, hlt, setObj, w']
        · refine .tup [.bool true, goInt pos, .int .i32 (Utf8.decode s pos).1] _ rfl (fun k hk => ?_)
          have hk : k < 3 := hk
          match k, hk with
          | 0, _ => exact .d _ _ (.bool _)
          | 1, _ => exact .d _ _ (by simp only [nI_eq]; exact .int _ _)
          | 2, _ => exact .d _ _ (by simp only [rune_eq]; exact .int _ _)
        · refine r.upd hob (by show _ ≤ (w.heap.setIfInBounds b _).size; simp) g (fun _ _ => rfl) (fun o' y c hne hy hl hc => ⟨hot c (r.ne hob hy trivial hl e1 hc hne), fun k hk => hk⟩) (fun c k hk => by show _ < (w.heap.setIfInBounds b _).size; simpa using r.imm c k hk) ?_
            (fun o' y c hne hy hl hc e => r.ne hob hy trivial hl e1 hc hne (by have e : ι _ = some _ := e; rw [e1] at e; exact (Option.some.inj e).symm))
          refine ⟨b, e1, e2, ?_⟩
          show (w.heap.setIfInBounds b _)[b]? = _
          rw [Array.getElem?_setIfInBounds]
          simp [lt_of_heap e3, addN_eq, width_eq]
        · exact ⟨rfl, rfl, rfl, by show _ ≤ (w.heap.setIfInBounds b _).size; simp, fun k _ hk => hot k (fun e => e2 (e ▸ hk))⟩
      · have hq := h2 (by simp only [leP_eq, nI_eq, lenS_eq]; omega)
        refine .pure r (v := .tuple #[.bool false]) ?_ (.tup [.bool false] _ rfl (fun k hk => ?_)) hq
        · simp [Instr.next, getObj, Sem.run, e3, hlt]
        · have hk : k < 1 := hk
          match k, hk with
          | 0, _ => exact .d _ _ (.bool _)
    · exact h.elim
  · exact h.elim

theorem wrange_ok (hT : TabOk P T) {t : Nat} {s : ByteArray} {ti : TI} {v : Value} (hti : T.ti t = some ti) (hk : ti.kind = .string) {Q : A → AHeap → Prop} (r : Rel B ι I w H) (hv : RepA w I ι H v (.d (.str s))) (h : Q (.itr (lenL H)) (H ++ [.iter s 0])) :
    StepsV P B (Instr.range t v) w I ι H Q := by
  obtain ⟨d, hd, hu⟩ := (hT.ti _ _ hti).underlying
  rw [hk] at hd
  obtain rfl := kindOf_string hd
  obtain rfl := rep_str hv
  rw [lenL_eq] at h
  have hb := fun b (h : b < w.heap.size) => heap_alloc_eq w (.stringIter s 0) b h
  have g := Goes.new hb r.imm ι H (.iter s 0) (some w.heap.size)
  refine ⟨.pointer (some ⟨w.heap.size, 0, none⟩), _, w.alloc (.stringIter s 0), I, _, _, by simp [Instr.range, hu], h, ?_, ?_, g, (Below.refl B w).alloc _⟩
  · exact .itr _ _ (by simp) (fun s' p hh => ⟨w.heap.size, by simp [updι], rfl⟩) ⟨_, rfl⟩
  · refine r.new (by show _ ≤ (w.heap.push _).size; simp) hb _ _ (fun b' e => by cases e; exact Nat.le_refl _) ?_
    exact ⟨w.heap.size, by simp [updι], r.fresh, heap_alloc_new _ _⟩

/-- what an operation leaves in its slot -/
def Next.val : Next → Option Value
  | .value v => some v
  | .skip => some undef
  | _ => none

def StepsN (P : Program) (B : Gd) (s : Sem Next) (w : World) (I : Nat → Nat → Prop) (ι : Nat → Option Nat) (H : AHeap) (Q : A → AHeap → Prop) : Prop :=
  ∃ nx v r w' I' ι' H', s.run P w = .ok nx w' ∧ (nx = .value v ∨ (nx = .skip ∧ v = undef)) ∧ Q r H' ∧ RepA w' I' ι' H' v r ∧ Rel B ι' I' w' H' ∧ Goes w w' I I' ι ι' H H' ∧ Below B w w'

theorem StepsV.next {s : Sem Value} {Q : A → AHeap → Prop} (h : StepsV P B s w I ι H Q) {s' : Sem Next} (e : ∀ v w', s.run P w = .ok v w' → s'.run P w = .ok (.value v) w') : StepsN P B s' w I ι H Q := by
  obtain ⟨v, r, w', I', ι', H', h1, h2⟩ := h
  exact ⟨.value v, v, r, w', I', ι', H', e v w' h1, .inl rfl, h2⟩

theorem StepsV.at {s : Sem Value} {Q : A → Prop} {Q' : A → AHeap → Prop} (h : StepsV P B s w I ι H (fun a H' => Q a ∧ H' = H)) (e : ∀ a, Q a → Q' a H) : StepsV P B s w I ι H Q' := by
  obtain ⟨v, r, w', I', ι', H', h1, ⟨h2, h3⟩, h4⟩ := h
  subst h3
  exact ⟨v, r, w', I', ι', _, h1, e _ h2, h4⟩

theorem list_rep {a : Act} {tm : List A} (hT : RepT w I ι H a tm) (xs : Array Operand) :
    (xs.map a.eval).toList.length = (xs.toList.map (ev tm)).length ∧ ∀ k, k < (xs.toList.map (ev tm)).length → RepA w I ι H ((xs.map a.eval).toList.getD k undef) ((xs.toList.map (ev tm)).getD k .undef) := by
  refine ⟨by simp, fun k hk => ?_⟩
  have hk' : k < xs.size := by simpa using hk
  simp only [Array.toList_map, List.getD_eq_getElem?_getD, List.getElem?_map, Array.getElem?_toList, Array.getElem?_eq_getElem hk', Option.map_some, Option.getD_some]
  exact ev_rep hT _

theorem wprim_ok (hT : TabOk P T) {o : Oper} {a : Act} {tm : List A} {Q : A → AHeap → Prop} (r : Rel B ι I w H) (ha : RepT w I ι H a tm) (h : wprim T o tm H Q) : StepsN P B (execOp a.eval o) w I ι H Q := by
  unfold wprim at h
  split at h
  · rename_i x ho
    exact StepsV.next (StepsV.pure (P := P) (s := pure (a.eval x)) r rfl (ev_rep ha x) h) (fun v w' e => by cases e; simp [execOp, ho])
  · rename_i x ho
    exact StepsV.next (StepsV.pure (P := P) (s := pure (a.eval x)) r rfl (ev_rep ha x) h) (fun v w' e => by cases e; simp [execOp, ho])
  · rename_i c x y ho
    have hc := ev_rep ha c
    split at h
    · rename_i t ht
      rw [ht] at hc
      have hv := rep_bool hc
      cases t with
      | true => exact StepsV.next (StepsV.pure (P := P) (s := pure (a.eval x)) r rfl (ev_rep ha x) h) (fun v w' e => by cases e; simp [execOp, ho, hv, asBool])
      | false => exact StepsV.next (StepsV.pure (P := P) (s := pure (a.eval y)) r rfl (ev_rep ha y) h) (fun v w' e => by cases e; simp [execOp, ho, hv, asBool])
    · exact h.elim
  · rename_i e ho
    split at h
    · rename_i ti hti
      exact StepsV.next (walloc_ok hT hti r h) (fun v w' e => by simp [execOp, ho, e])
    · exact h.elim
  · rename_i t x ho
    split at h
    · exact StepsV.next (wboxF_ok (t := t) r (ev_rep ha x) h.1 h.2) (fun v w' e => by simp [execOp, ho, e])
    · exact StepsV.next (wbox_ok (t := t) r (ev_rep ha x) h.1 h.2) (fun v w' e => by simp [execOp, ho, e])
  · rename_i t parts ho
    obtain ⟨h1, h2⟩ := parts_rep ha parts
    exact StepsV.next ((wbuild_ok hT r h1 h2 h).at (fun _ h => h)) (fun v w' e => by simp [execOp, ho, e])
  · rename_i t len parts ho
    obtain ⟨h1, h2⟩ := parts_rep ha parts
    exact StepsV.next (wbuildSlice_ok hT r h1 h2 h) (fun v w' e => by simp [execOp, ho, e])
  · rename_i t x ho
    exact StepsV.next ((wload_ok hT r (ev_rep ha x) h).at (fun _ h => h)) (fun v w' e => by simp [execOp, ho, e])
  · rename_i t p x ho
    obtain ⟨w', I', H', h1, h2, h3, h4, h5⟩ := wstore_ok hT r (ev_rep ha p) (ev_rep ha x) h
    exact ⟨.skip, undef, .undef, w', I', ι, H', by simp [execOp, ho, h1], .inr ⟨rfl, rfl⟩, h2, .undef _, h3, h4, h5⟩
  · rename_i x ho
    have hx := ev_rep ha x
    unfold wnil at h
    split at h
    · rename_i o k e
      rw [e] at hx
      generalize hvx : a.eval x = vx at hx
      cases hx with | ptr _ _ _ h1 h2 hv =>
      obtain ⟨p, hp⟩ := hv
      exact StepsV.next (StepsV.pure (P := P) (s := pure vx) r rfl (.ptr _ _ _ h1 h2 ⟨p, hp⟩) h) (fun v w' e => by cases e; simp [execOp, ho, hvx, hp])
    · rename_i o i j l e
      rw [e] at hx
      generalize hvx : a.eval x = vx at hx
      cases hx with | eptr _ _ _ _ _ h1 h2 hv =>
      obtain ⟨p, hp⟩ := hv
      exact StepsV.next (StepsV.pure (P := P) (s := pure vx) r rfl (.eptr _ _ _ _ _ h1 h2 ⟨p, hp⟩) h) (fun v w' e => by cases e; simp [execOp, ho, hvx, hp])
    · rename_i g i j sz e
      rw [e] at hx
      generalize hv : a.eval x = vx at hx
      cases hx with | iptr b o _ _ _ _ vals hc hr =>
      exact StepsV.next (StepsV.pure (P := P) (s := pure (a.eval x)) r rfl (by rw [hv]; exact .iptr b o g i j sz vals hc hr) h) (fun v w' e => by cases e; simp [execOp, ho, hv])
    · rename_i f x1 x2 e
      rw [e] at hx
      generalize hv : a.eval x = vx at hx
      cases hx with | clo _ fv cv _ _ h1 h2 h3 h4 =>
      exact StepsV.next (StepsV.pure (P := P) (s := pure (a.eval x)) r rfl (by rw [hv]; exact .clo f fv cv x1 x2 h1 h2 h3 h4) h) (fun v w' e => by cases e; simp [execOp, ho, hv])
    · exact h.elim
  · rename_i op t x y t2 ho
    exact StepsV.next ((wbin_ok hT r (ev_rep ha x) (ev_rep ha y) x y h).at (fun _ h => h)) (fun v w' e => by
      rw [Sem.run_bind] at e
      cases hg : (eqGuard op t x y (a.eval x) (a.eval y)).run P w with
      | ok u w1 =>
        rw [hg, Result.andThen_ok] at e
        simp [execOp, ho, hg, e]
      | halt h' w1 => rw [hg] at e; cases e)
  · rename_i op t x ho
    exact StepsV.next ((wun_ok r (ev_rep ha x) h).at (fun _ h => h)) (fun v w' e => by simp [execOp, ho, e])
  · rename_i src dst x ho
    exact StepsV.next ((wconv_ok hT r (ev_rep ha x) h).at (fun _ h => h)) (fun v w' e => by simp [execOp, ho, e])
  · rename_i f first caps ho
    obtain ⟨h1, h2⟩ := list_rep ha first
    obtain ⟨h3, h4⟩ := list_rep ha caps
    have hrep := RepA.clo (w := w) (I := I) (ι := ι) (H := H) f _ _ _ _ h1 h3 h2 h4
    rw [Array.toArray_toList, Array.toArray_toList] at hrep
    exact StepsV.next (StepsV.pure (P := P) (s := pure _) r rfl hrep h) (fun v w' e => by cases e; simp [execOp, ho, Instr.makeFunc])
  · rename_i t l c ho
    exact StepsV.next (wmake_ok hT r (ev_rep ha l) (ev_rep ha c) h) (fun v w' e => by simp [execOp, ho, e])
  · rename_i t x lo hi ho
    refine StepsV.next (wslice_ok hT r (ev_rep ha x) (vlo := lo.map a.eval) (vhi := hi.map a.eval) ?_ ?_ h) (fun v w' e => by simp [execOp, ho, e])
    · cases lo with
      | none => exact .none
      | some l => exact .some _ _ (ev_rep ha l)
    · cases hi with
      | none => exact .none
      | some l => exact .some _ _ (ev_rep ha l)
  · rename_i t x f ho
    exact StepsV.next ((wfieldAddr_ok hT r (ev_rep ha x) h).at (fun _ h => h)) (fun v w' e => by simp [execOp, ho, e])
  · rename_i t x f ho
    exact StepsV.next ((wfield_ok hT r (ev_rep ha x) h).at (fun _ h => h)) (fun v w' e => by simp [execOp, ho, e])
  · rename_i t x i ho
    exact StepsV.next ((windexAddr_ok hT r (ev_rep ha x) (ev_rep ha i) h).at (fun _ h => h)) (fun v w' e => by simp [execOp, ho, e])
  · rename_i t x i ho
    exact StepsV.next ((windex_ok hT r (ev_rep ha x) (ev_rep ha i) h).at (fun _ h => h)) (fun v w' e => by simp [execOp, ho, e])
  · rename_i t x ho
    have hx := ev_rep ha x
    split at h
    · rename_i s e1
      rw [e1] at hx
      split at h
      · rename_i hti
        exact StepsV.next (wrange_ok hT hti rfl r hx h) (fun v w' e => by simp [execOp, ho, e])
      · exact h.elim
    · exact h.elim
  · rename_i it ho
    exact StepsV.next (wnext_ok r (ev_rep ha it) h o.type) (fun v w' e => by simp [execOp, ho, e])
  · rename_i t i ho
    have hx := ev_rep ha t
    split at h
    · rename_i ps e1
      rw [e1] at hx
      obtain ⟨h1, h2⟩ := h
      simp only [Nat.blt_eq, lenL_eq] at h1
      rw [getL_eq] at h2
      obtain ⟨vs, hv, l1, l2⟩ := rep_tup hx
      have hlt : i < vs.length := by omega
      exact StepsV.next (StepsV.pure (P := P) (s := pure (vs.getD i undef)) r rfl (l2 i h1) h2) (fun v w' e => by cases e; simp [execOp, ho, hv, Instr.extract, List.getElem?_eq_getElem hlt, List.getD_eq_getElem?_getD])
    · exact h.elim
  · rename_i c ho
    split at h
    · rename_i hc
      split at h
      rotate_left
      · exact h.elim
      rename_i x t hargs hty
      refine StepsV.next ((wlen_ok hT r (ev_rep ha x) h o.type c.argTypes (by rw [hty]; rfl) (c.args.map a.eval) (by rw [hargs]; simp)).at (fun _ h => h)) (fun v w' e => by
        simp [execOp, ho, resolve, hc, invoke, builtin, e])
    · rename_i hc
      split at h
      rotate_left
      · exact h.elim
      rename_i x y hargs
      have := (max_ok r (ev_rep ha x) (ev_rep ha y) h c.argTypes o.type (P := P)).at (Q' := Q) (fun _ h => h)
      refine StepsV.next this (fun v w' e => by
        simp [execOp, ho, resolve, hc, invoke, builtin, hargs, e])
    · rename_i hc
      split at h
      rotate_left
      · exact h.elim
      rename_i x y hargs
      have := (min_ok r (ev_rep ha x) (ev_rep ha y) h c.argTypes o.type (P := P)).at (Q' := Q) (fun _ h => h)
      refine StepsV.next this (fun v w' e => by
        simp [execOp, ho, resolve, hc, invoke, builtin, hargs, e])
    · rename_i hc
      split at h
      rotate_left
      · exact h.elim
      rename_i x y t t2 hargs hty
      refine StepsV.next (wappend_ok hT r (ev_rep ha x) (ev_rep ha y) h o.type) (fun v w' e => by
        simp [execOp, ho, resolve, hc, invoke, builtin, hargs, hty, e])
    · exact h.elim
  · exact h.elim

end Go.VM

/- The logic of abstract states: contracts of functions, and the weakest precondition of a code, both sound for the model. -/
set_option linter.unusedSimpArgs false
set_option linter.unusedVariables false
set_option linter.unusedSectionVars false
namespace Go.VM
open Ops
variable [Ops] [Glb] [Lim]

/-- What a state keeps of the one in which the function was entered. -/
structure Keep (B : Gd) (w0 : World) (I0 : Nat → Nat → Prop) (ι0 : Nat → Option Nat) (H0 : AHeap) (w : World) (I : Nat → Nat → Prop) (ι : Nat → Option Nat) (H : AHeap) : Prop where
  below : Below B w0 w
  same : Same I0 w0 w
  imm : ∀ b k, I0 b k → I b k
  len : H0.length ≤ H.length
  rep : ∀ v x, RepA w0 I0 ι0 H0 v x → RepA w I ι H v x

/-- lists of values and what they stand for -/
def RepL (w : World) (I : Nat → Nat → Prop) (ι : Nat → Option Nat) (H : AHeap) (vs : List Value) (xs : List A) : Prop :=
  vs.length = xs.length ∧ ∀ k, k < xs.length → RepA w I ι H (vs.getD k undef) (xs.getD k .undef)

/-- THE CONTRACT of function K: called with what the abstract arguments stand for, in whatever world, it returns what some r stands for, in a heap H', and R r H'. -/
def VCalls (P : Program) (K : FuncId) (args : List A) (H : AHeap) (R : A → AHeap → Prop) : Prop :=
  ∀ (lim : Lim) B ι I w vs, @Rel _ lim B ι I w H → RepL w I ι H vs args → Calls P K vs.toArray w (fun e w' =>
    ∃ v r H' ι' I', e = .returned v ∧ R r H' ∧ @Rel _ lim B ι' I' w' H' ∧ RepA w' I' ι' H' v r ∧ Keep B w I ι H w' I' ι' H')

omit [Ops] [Lim] in
theorem VCalls.mono {P : Program} {K : FuncId} {args : List A} {H : AHeap} {R R' : A → AHeap → Prop} (h : VCalls P K args H R) (hr : ∀ r H', R r H' → R' r H') : VCalls P K args H R' :=
  fun lim B ι I w vs hrel hargs => (h lim B ι I w vs hrel hargs).mono fun _ _ ⟨v, r, H', ι', I', h1, h2, h3⟩ => ⟨v, r, H', ι', I', h1, hr _ _ h2, h3⟩

structure Entry where
  B : Gd
  w : World
  I : Nat → Nat → Prop
  ι : Nat → Option Nat
  H : AHeap

/-- a frame and a world that an abstract state stands for -/
structure Inv (E : Entry) (ι : Nat → Option Nat) (I : Nat → Nat → Prop) (a : Act) (w : World) (σ : St) : Prop where
  defers : a.defers = []
  tm : RepT w I ι σ.hp a σ.tm
  rel : Rel E.B ι I w σ.hp
  keep : Keep E.B E.w E.I E.ι E.H w I ι σ.hp

inductive ExRel : Exit → Ex → Prop
  | normal : ExRel .normal .normal
  | exit (id : Nat) : ExRel (.exit id) (.exit id)
  | ret : ExRel .ret .ret

def Post (E : Entry) (Q : Ex → St → Prop) : Exit → Act → World → Prop := fun e a w => ∃ ex σ ι I, ExRel e ex ∧ Q ex σ ∧ Inv E ι I a w σ

/-- THE LOGIC: from each frame and world that σ stands for, code c comes to an end that Q holds of. n: how many objects there were when the function was entered. -/
def VW (P : Program) (n : Nat) (c : Code) (Q : Ex → St → Prop) (σ : St) : Prop :=
  ∀ E ι I a w, E.H.length = n → Inv E ι I a w σ → c.wp P (Post E Q) a w

variable {P : Program} {T : Tab} {n : Nat}

theorem VW.mono {c : Code} {Q Q' : Ex → St → Prop} {σ : St} (h : VW P n c Q σ) (hq : ∀ e s, Q e s → Q' e s) : VW P n c Q' σ :=
  fun E ι I a w hn hi => wp_mono (h E ι I a w hn hi) fun _ _ _ ⟨ex, s, ι', I', h1, h2, h3⟩ => ⟨ex, s, ι', I', h1, hq _ _ h2, h3⟩

theorem VW_skip {Q : Ex → St → Prop} {σ : St} (h : Q .normal σ) : VW P n .skip Q σ :=
  fun E ι I a w _ hi => wp_skip ⟨.normal, σ, ι, I, .normal, h, hi⟩

theorem VW_exit {Q : Ex → St → Prop} {σ : St} {id : Nat} (h : Q (.exit id) σ) : VW P n (.exit id) Q σ :=
  fun E ι I a w _ hi => wp_exit ⟨.exit id, σ, ι, I, .exit id, h, hi⟩

theorem VW_ret {Q : Ex → St → Prop} {σ : St} (h : Q .ret σ) : VW P n .ret Q σ :=
  fun E ι I a w _ hi => wp_ret ⟨.ret, σ, ι, I, .ret, h, hi⟩

def seqQ (next : St → Prop) (Q : Ex → St → Prop) : Ex → St → Prop
  | .normal, σ => next σ
  | e, σ => Q e σ

theorem VW_seq {x y : Code} {Q : Ex → St → Prop} {σ : St} (h : VW P n x (seqQ (VW P n y Q) Q) σ) : VW P n (.seq x y) Q σ := by
  intro E ι I a w hn hi
  refine wp_seq (wp_mono (h E ι I a w hn hi) ?_)
  rintro e a' w' ⟨ex, s, ι', I', h1, h2, h3⟩
  cases h1 with
  | normal => exact h2 E ι' I' a' w' hn h3
  | exit id => exact ⟨_, s, ι', I', .exit id, h2, h3⟩
  | ret => exact ⟨_, s, ι', I', .ret, h2, h3⟩

def blockQ (id : Nat) (Q : Ex → St → Prop) : Ex → St → Prop
  | .exit i, σ => match Nat.beq i id with | true => Q .normal σ | false => Q (.exit i) σ
  | e, σ => Q e σ

theorem VW_block {c : Code} {id : Nat} {Q : Ex → St → Prop} {σ : St} (h : VW P n c (blockQ id Q) σ) : VW P n (.block id c) Q σ := by
  intro E ι I a w hn hi
  refine wp_block (wp_mono (h E ι I a w hn hi) ?_)
  rintro e a' w' ⟨ex, s, ι', I', h1, h2, h3⟩
  cases h1 with
  | normal => exact ⟨_, s, ι', I', .normal, h2, h3⟩
  | exit i =>
    simp only [Exit.inBlock]
    simp only [blockQ] at h2
    by_cases e : i = id
    · subst e
      rw [if_pos rfl]
      rw [show Nat.beq i i = true from Nat.beq_refl i] at h2
      exact ⟨_, s, ι', I', .normal, h2, h3⟩
    · rw [if_neg e]
      rw [show Nat.beq i id = false from by cases hb : Nat.beq i id with | false => rfl | true => exact absurd (Nat.eq_of_beq_eq_true hb) e] at h2
      exact ⟨_, s, ι', I', .exit i, h2, h3⟩
  | ret => exact ⟨_, s, ι', I', .ret, h2, h3⟩

theorem VW_cond {c : Operand} {x y : Code} {Q : Ex → St → Prop} {σ : St} {t : Bool} (he : ev σ.tm c = .d (.bool t)) (ht : t = true → VW P n x Q σ) (hf : t = false → VW P n y Q σ) : VW P n (.cond c x y) Q σ := by
  intro E ι I a w hn hi
  have hc := ev_rep hi.tm c
  rw [he] at hc
  exact wp_cond_split (rep_bool hc) (fun h => ht h E ι I a w hn hi) (fun h => hf h E ι I a w hn hi)

/-! ### Forgetting -/
def nilD : D → Prop
  | .sl n _ _ => n = 0
  | _ => False
/-- data stands for data, and an empty slice for a nil one -/
def leD (x : D) : A → Prop
  | .d z => Deq z x
  | .nils => nilD x
  | _ => False
def leL : A → A → Prop
  | .undef, _ => True
  | .d x, y => leD x y
  | x, y => x = y

def leLs : List A → List A → Prop
  | [], [] => True
  | x :: xs, y :: ys => leL x y ∧ leLs xs ys
  | _, _ => False

def leA : A → A → Prop
  | .undef, _ => True
  | .d x, y => leD x y
  | .agg xs, y => ∃ ys, y = .agg ys ∧ leLs xs ys
  | .tup xs, y => ∃ ys, y = .tup ys ∧ leLs xs ys
  | x, y => x = y

def leAs : List A → List A → Prop
  | [], [] => True
  | x :: xs, y :: ys => leA x y ∧ leAs xs ys
  | _, _ => False

def leO : AObj → AObj → Prop
  | .dead, _ => True
  | .box xs, y => ∃ ys, y = .box ys ∧ leLs xs ys
  | .arr m sz g fz, y => ∃ g' fz', y = .arr m sz g' fz' ∧ fz' ≤ fz ∧ fz ≤ m ∧ ∀ i j, i < m → j < sz → Deq (g' i j) (g i j)
  | .iter s p, y => y = .iter s p
  | .bld c, y => y = .bld c

def leH : AHeap → AHeap → Prop
  | [], _ => True
  | x :: xs, y :: ys => leO x y ∧ leH xs ys
  | _ :: _, [] => False

/-- σ' knows no more than σ; it may have lost objects that were made since the entry. -/
def leS (n : Nat) (σ' σ : St) : Prop := leAs σ'.tm σ.tm ∧ leH σ'.hp σ.hp ∧ n ≤ σ'.hp.length

theorem leH_get : ∀ {H' H : AHeap}, leH H' H → H'.length ≤ H.length ∧ ∀ (o : Nat) (x : AObj), H'[o]? = some x → ∃ y, H[o]? = some y ∧ leO x y
  | [], _, _ => ⟨Nat.zero_le _, fun o x h => by simp at h⟩
  | x :: xs, y :: ys, h => by
    obtain ⟨h1, h2⟩ := h
    obtain ⟨h3, h4⟩ := leH_get h2
    refine ⟨by simpa using h3, fun o z hz => ?_⟩
    cases o with
    | zero => simp at hz; subst hz; exact ⟨y, rfl, h1⟩
    | succ o => simpa using h4 o z (by simpa using hz)

theorem leAs_get : ∀ {xs ys : List A}, leAs xs ys → xs.length = ys.length ∧ ∀ k, k < xs.length → leA (xs.getD k .undef) (ys.getD k .undef)
  | [], [], _ => ⟨rfl, fun k h => by simp at h⟩
  | x :: xs, y :: ys, h => by
    obtain ⟨h1, h2⟩ := h
    obtain ⟨h3, h4⟩ := leAs_get h2
    refine ⟨by simp [h3], fun k hk => ?_⟩
    cases k with
    | zero => simpa using h1
    | succ k => simpa using h4 k (by simpa using hk)

theorem leLs_get : ∀ {xs ys : List A}, leLs xs ys → xs.length = ys.length ∧ ∀ k, k < xs.length → leL (xs.getD k .undef) (ys.getD k .undef)
  | [], [], _ => ⟨rfl, fun k h => by simp at h⟩
  | x :: xs, y :: ys, h => by
    obtain ⟨h1, h2⟩ := h
    obtain ⟨h3, h4⟩ := leLs_get h2
    refine ⟨by simp [h3], fun k hk => ?_⟩
    cases k with
    | zero => simpa using h1
    | succ k => simpa using h4 k (by simpa using hk)

/-- all objects that a value speaks of are below n -/
inductive Bel (n : Nat) : A → Prop
  | d (x : D) : Bel n (.d x)
  | nils : Bel n .nils
  | ref (o off len sz : Nat) (h : o < n) : Bel n (.ref o off len sz)
  | ptr (o off : Nat) (h : o < n) : Bel n (.ptr o off)
  | eptr (o i j len : Nat) (h : o < n) : Bel n (.eptr o i j len)
  | iptr (g : Nat → Nat → D) (i j sz : Nat) : Bel n (.iptr g i j sz)
  | itr (o : Nat) (h : o < n) : Bel n (.itr o)
  | clo (f : FuncId) (xs ys : List A) (h1 : ∀ k, k < xs.length → Bel n (xs.getD k .undef)) (h2 : ∀ k, k < ys.length → Bel n (ys.getD k .undef)) : Bel n (.clo f xs ys)
  | agg (xs : List A) (h1 : ∀ k, k < xs.length → Bel n (xs.getD k .undef)) : Bel n (.agg xs)
  | tup (xs : List A) (h1 : ∀ k, k < xs.length → Bel n (xs.getD k .undef)) : Bel n (.tup xs)
  | undef : Bel n .undef

section
variable {w : World} {I : Nat → Nat → Prop} {ι : Nat → Option Nat} {H H' : AHeap}

theorem RepA.bel {v : Value} {x : A} (h : RepA w I ι H v x) : Bel H.length x := by
  induction h with
  | d => exact .d _
  | nils => exact .nils
  | ref _ _ _ _ _ ho => exact .ref _ _ _ _ ho
  | ptr _ _ _ ho => exact .ptr _ _ ho
  | eptr _ _ _ _ _ ho => exact .eptr _ _ _ _ ho
  | iptr => exact .iptr _ _ _ _
  | itr _ _ ho => exact .itr _ ho
  | clo _ _ _ _ _ _ _ _ _ ih1 ih2 => exact .clo _ _ _ ih1 ih2
  | agg _ _ _ _ ih => exact .agg _ ih
  | tup _ _ _ _ ih => exact .tup _ ih
  | undef => exact .undef

/-- a value over fewer objects, of which less is known -/
theorem RepA.less (hH : leH H' H) {v : Value} {x : A} (h : RepA w I ι H v x) : Bel H'.length x → RepA w I ι H' v x := by
  obtain ⟨hl, hg⟩ := leH_get hH
  induction h with
  | d v x h => exact fun _ => .d v x h
  | nils => exact fun _ => .nils
  | ref v o off len sz ho h hlen =>
    intro hb
    cases hb with | ref _ _ _ _ hb =>
    refine .ref v o off len sz hb (fun m sz' g fz hx hs => ?_) hlen
    obtain ⟨y, hy, hle⟩ := hg o _ hx
    obtain ⟨g', fz', rfl, -⟩ := hle
    exact h m sz' g' fz' hy hs
  | ptr v o off ho h hv =>
    intro hb
    cases hb with | ptr _ _ hb =>
    refine .ptr v o off hb (fun x hx hbx => ?_) hv
    obtain ⟨y, hy, hle⟩ := hg o _ hx
    cases x with
    | box cs =>
      obtain ⟨ys, rfl, -⟩ := hle
      exact h _ hy trivial
    | bld c => cases hle; exact h _ hy trivial
    | _ => exact hbx.elim
  | eptr v o i j len ho h hv =>
    intro hb
    cases hb with | eptr _ _ _ _ hb =>
    refine .eptr v o i j len hb (fun m sz g fz hx => ?_) hv
    obtain ⟨y, hy, hle⟩ := hg o _ hx
    obtain ⟨g', fz', rfl, -⟩ := hle
    exact h m sz g' fz' hy
  | iptr b o g i j sz vals hc hr => exact fun _ => .iptr b o g i j sz vals hc hr
  | itr v o ho h hv =>
    intro hb
    cases hb with | itr _ hb =>
    refine .itr v o hb (fun s p hx => ?_) hv
    obtain ⟨y, hy, hle⟩ := hg o _ hx
    cases hle
    exact h s p hy
  | clo f fv cv xs ys h1 h2 _ _ ih1 ih2 =>
    intro hb
    cases hb with | clo _ _ _ b1 b2 =>
    exact .clo f fv cv xs ys h1 h2 (fun k hk => ih1 k hk (b1 k hk)) (fun k hk => ih2 k hk (b2 k hk))
  | agg vs cs h1 _ ih =>
    intro hb
    cases hb with | agg _ b1 =>
    exact .agg vs cs h1 (fun k hk => ih k hk (b1 k hk))
  | tup vs cs h1 _ ih =>
    intro hb
    cases hb with | tup _ b1 =>
    exact .tup vs cs h1 (fun k hk => ih k hk (b1 k hk))
  | undef v => exact fun _ => .undef v

theorem leD_rep {v : Value} {x : D} {y : A} (h : RepA w I ι H v y) (hle : leD x y) : RepA w I ι H v (.d x) := by
  cases y with
  | d z => cases h with | d _ _ h => exact .d _ _ (h.deq hle)
  | nils =>
    cases x with
    | sl n sz g =>
      have e : n = 0 := hle
      subst e
      cases h; exact .d _ _ (.sl0 _ _ _ _)
    | _ => exact hle.elim
  | _ => exact hle.elim
theorem leL_rep {v : Value} {x y : A} (h : RepA w I ι H v y) (hle : leL x y) : RepA w I ι H v x := by
  cases x with
  | undef => exact .undef v
  | d x => exact leD_rep h hle
  | _ => cases hle; exact h

theorem leA_rep {v : Value} {x y : A} (h : RepA w I ι H v y) (hle : leA x y) : RepA w I ι H v x := by
  cases x with
  | undef => exact .undef v
  | d x => exact leD_rep h hle
  | agg xs =>
    obtain ⟨ys, rfl, hle⟩ := hle
    obtain ⟨l1, l2⟩ := leLs_get hle
    cases h with | agg vs _ h1 h2 => exact .agg vs xs (by omega) (fun k hk => leL_rep (h2 k (by omega)) (l2 k hk))
  | tup xs =>
    obtain ⟨ys, rfl, hle⟩ := hle
    obtain ⟨l1, l2⟩ := leLs_get hle
    cases h with | tup vs _ h1 h2 => exact .tup vs xs (by omega) (fun k hk => leL_rep (h2 k (by omega)) (l2 k hk))
  | _ => cases hle; exact h
end

/-- the objects of which the weaker state still speaks speak of no lost ones: asked where they are boxes -/
def BelO (n : Nat) : AObj → Prop
  | .box cs => ∀ k, k < cs.length → Bel n (cs.getD k .undef)
  | _ => True

def BelS (σ : St) : Prop := (∀ k, k < σ.tm.length → Bel σ.hp.length (σ.tm.getD k .undef)) ∧ ∀ (o : Nat) (x : AObj), σ.hp[o]? = some x → BelO σ.hp.length x

theorem leO_own {w : World} {ι : Nat → Option Nat} {o b : Nat} {x y : AObj} (hx : x.live) (hle : leO x y) (h : Own w ι o x b) : Own w ι o y b := by
  cases x with
  | dead => exact hx.elim
  | iter s p => cases hle; exact h
  | bld c => cases hle; exact h
  | box cs => obtain ⟨_, rfl, _⟩ := hle; exact h
  | arr m sz g fz => obtain ⟨_, _, rfl, _⟩ := hle; exact h

theorem Rel.less {B : Gd} {ι : Nat → Option Nat} {I : Nat → Nat → Prop} {w : World} {H H' : AHeap} (r : Rel B ι I w H) (hH : leH H' H) (hb : ∀ (o : Nat) (x : AObj), H'[o]? = some x → BelO H'.length x) : Rel B ι I w H' := by
  obtain ⟨hl, hg⟩ := leH_get hH
  refine ⟨r.base, r.imm, r.low, r.glob, fun o x hx => ?_, fun o o' x x' b hx hx' lx lx' e e' => ?_⟩
  · obtain ⟨y, hy, hle⟩ := hg o x hx
    have hob := r.obj o y hy
    cases x with
    | dead => trivial
    | iter s p => cases hle; exact hob
    | bld c => cases hle; exact hob
    | box cs =>
      obtain ⟨ys, rfl, hls⟩ := hle
      obtain ⟨l1, l2⟩ := leLs_get hls
      obtain ⟨b, vs, el, fr, e1, e2, e3, e4, e5, e6⟩ := hob
      refine ⟨b, vs, el, fr, e1, e2, e3, by omega, fun k hk => ?_, e6⟩
      exact (leL_rep (e5 k (by omega)) (l2 k hk)).less hH (hb o _ hx k hk)
    | arr m sz g fz =>
      obtain ⟨g', fz', rfl, h1, h2, h3⟩ := hle
      obtain ⟨hfz, hob⟩ := hob
      refine ⟨h2, ?_⟩
      rcases hob with ⟨b, vs, el, fr, e1, e2, e3, e4, e5, e6⟩ | h
      · have : fz' * sz ≤ fz * sz := Nat.mul_le_mul_right _ h1
        exact .inl ⟨b, vs, el, fr, e1, e2, e3, e4, fun i j hi hj => (e5 i j hi hj).deq (h3 i j hi hj), fun k hk => e6.1 k (by omega), fun k hk => e6.2 k (by omega)⟩
      · exact .inr h
  · obtain ⟨y, hy, hle⟩ := hg o x hx
    obtain ⟨y', hy', hle'⟩ := hg o' x' hx'
    have lv : ∀ {x y : AObj}, x.live → leO x y → y.live := fun {x y} hx hle => by
      cases x with
      | dead => exact hx.elim
      | iter s p => cases hle; trivial
      | bld c => cases hle; trivial
      | box cs => obtain ⟨_, rfl, _⟩ := hle; trivial
      | arr m sz g fz => obtain ⟨_, _, rfl, _⟩ := hle; trivial
    exact r.inj o o' y y' b hy hy' (lv lx hle) (lv lx' hle') (leO_own lx hle e) (leO_own lx' hle' e')

theorem Inv.less {E : Entry} {ι : Nat → Option Nat} {I : Nat → Nat → Prop} {a : Act} {w : World} {σ σ' : St} (h : Inv E ι I a w σ) (hle : leS E.H.length σ' σ) (hb : BelS σ') : Inv E ι I a w σ' := by
  obtain ⟨h1, h2, h3⟩ := hle
  obtain ⟨l1, l2⟩ := leAs_get h1
  refine ⟨h.defers, ⟨h.tm.1.trans l1.symm, fun t ht => ?_⟩, h.rel.less h2 hb.2, ⟨h.keep.below, h.keep.same, h.keep.imm, h3, fun v x hx => ?_⟩⟩
  · exact RepA.less h2 (leA_rep (h.tm.2 t (by omega)) (l2 t ht)) (hb.1 t ht)
  · refine (h.keep.rep v x hx).less h2 ?_
    have : ∀ {n m : Nat} {x : A}, n ≤ m → Bel n x → Bel m x := fun {n m x} hnm hx => by
      induction hx with
      | d => exact .d _
      | nils => exact .nils
      | ref _ _ _ _ h => exact .ref _ _ _ _ (by omega)
      | ptr _ _ h => exact .ptr _ _ (by omega)
      | eptr _ _ _ _ h => exact .eptr _ _ _ _ (by omega)
      | iptr => exact .iptr _ _ _ _
      | itr _ h => exact .itr _ (by omega)
      | clo _ _ _ _ _ ih1 ih2 => exact .clo _ _ _ ih1 ih2
      | agg _ _ ih => exact .agg _ ih
      | tup _ _ ih => exact .tup _ ih
      | undef => exact .undef
    exact this h3 hx.bel

theorem VW_less {c : Code} {Q : Ex → St → Prop} {σ σ' : St} (hle : leS n σ' σ) (hb : BelS σ') (h : VW P n c Q σ') : VW P n c Q σ :=
  fun E ι I a w hn hi => h E ι I a w hn (hi.less (by rw [hn]; exact hle) hb)

/-- THE LOOP. -/
theorem VW_loop {c : Code} {Q : Ex → St → Prop} {σ : St} (J : Nat → St → Prop) (k : Nat) (h0 : ∃ s, leS n s σ ∧ BelS s ∧ J k s)
    (round : ∀ k s, J k s → VW P n c (seqQ (fun s' => ∃ k' s'', k' < k ∧ leS n s'' s' ∧ BelS s'' ∧ J k' s'') Q) s) : VW P n (.loop c) Q σ := by
  intro E ι I a w hn hi
  refine wp_loop_ghost (fun k a w => ∃ s ι I, J k s ∧ Inv E ι I a w s) k ?_ ?_
  · obtain ⟨s, h1, h2, h3⟩ := h0
    exact ⟨s, ι, I, h3, hi.less (by rw [hn]; exact h1) h2⟩
  · rintro k a w ⟨s, ι, I, hJ, hi⟩
    refine wp_mono (round k s hJ E ι I a w hn hi) ?_
    rintro e a' w' ⟨ex, s', ι', I', h1, h2, h3⟩
    cases h1 with
    | normal =>
      obtain ⟨k', s'', hk, hle, hb, hJ'⟩ := h2
      exact ⟨k', hk, s'', ι', I', hJ', h3.less (by rw [hn]; exact hle) hb⟩
    | exit id => exact ⟨_, s', ι', I', .exit id, h2, h3⟩
    | ret => exact ⟨_, s', ι', I', .ret, h2, h3⟩

end Go.VM

/- Regions that draw the order of their operations. First: a larger postcondition. -/
set_option linter.unusedSimpArgs false
set_option linter.unusedVariables false
set_option linter.unusedSectionVars false
namespace Go.VM
open Ops
variable [Ops] [Glb] [Lim]

section mono
variable {T : Tab} {t : Nat} {hp : AHeap} {Q Q' : A → Prop} {K K' : A → AHeap → Prop} (hq : ∀ a, Q a → Q' a) (hk : ∀ a h, K a h → K' a h)
include hq
theorem cmpQ_mono {p q : Prop} (h : cmpQ p q Q) : cmpQ p q Q' := by
  unfold cmpQ at *
  simp only [Imp_eq] at *
  exact ⟨fun a => hq _ (h.1 a), fun a => hq _ (h.2 a)⟩
theorem binI_mono {op : BinOp} {k : IntKind} {x y : Int} (h : binI op k x y Q) : binI op k x y Q' := by
  cases op <;> simp only [binI] at h ⊢ <;> first | exact hq _ h | exact cmpQ_mono hq h | exact ⟨h.1, hq _ h.2⟩ | exact h
theorem binS_mono {op : BinOp} {x y : ByteArray} (h : binS op x y Q) : binS op x y Q' := by
  cases op <;> simp only [binS] at h ⊢ <;> first | exact hq _ h | exact cmpQ_mono hq h | exact ⟨h.1, h.2.1, hq _ h.2.2⟩ | exact h
theorem binB_mono {op : BinOp} {x y : Bool} (h : binB op x y Q) : binB op x y Q' := by
  cases op <;> simp only [binB] at h ⊢ <;> first | exact hq _ h | exact h
theorem eqB_mono {op : BinOp} {b : Bool} (h : eqB op b Q) : eqB op b Q' := by
  unfold eqB at h ⊢
  split at h <;> first | exact hq _ h | exact h
theorem wnilcmp_mono {op : BinOp} {x y : A} (h : wnilcmp T t op x y Q) : wnilcmp T t op x y Q' := by
  unfold wnilcmp at h ⊢
  split at h
  · split at h
    · exact eqB_mono hq h
    · simp only [Imp_eq] at h ⊢
      split at h <;> first | exact ⟨fun e => hq _ (h.1 e), hq _ h.2⟩ | exact h
    · split at h <;> first | exact ⟨hq _ h.1, hq _ h.2⟩ | exact h
    · exact h
  · split at h <;> first | exact eqB_mono hq h | exact h
  · exact h
theorem wbin_mono (he : ∀ e xs ys Q Q', T.eq t = some e → (∀ a, Q a → Q' a) → e xs ys Q → e xs ys Q') {op : BinOp} {x y : A} (h : wbin T t op x y Q) : wbin T t op x y Q' := by
  unfold wbin at h ⊢
  split at h
  · split at h
    · exact ⟨h.1, hq _ h.2⟩
    · exact ⟨h.1, hq _ h.2⟩
    · exact ⟨h.1, binI_mono hq h.2⟩
  · exact binS_mono hq h
  · split at h
    · exact binB_mono hq h
    · exact h.elim
  · split at h
    · rename_i e heq; exact he _ _ _ _ _ heq hq h
    · rename_i e heq
      refine he _ _ _ _ _ heq ?_ h
      intro a
      split
      · split <;> exact hq _
      · exact id
    · exact h.elim
  · exact wnilcmp_mono hq h
theorem wload_mono {p : A} (h : wload T t p hp Q) : wload T t p hp Q' := by
  unfold wload at h ⊢
  split at h
  · exact h
  · split at h
    · split at h
      · exact ⟨h.1, h.2.1, hq _ h.2.2⟩
      · exact h.elim
    · split at h
      · exact ⟨h.1, h.2.1, h.2.2.1, h.2.2.2.1, hq _ h.2.2.2.2⟩
      · exact h.elim
    · exact ⟨h.1, h.2.1, hq _ h.2.2⟩
    · exact h.elim
theorem wlen_mono {x : A} (h : wlen T t x Q) : wlen T t x Q' := by
  unfold wlen at h ⊢
  split at h <;> first | exact hq _ h | exact h
theorem windexAddr_mono {x i : A} (h : windexAddr T t x i hp Q) : windexAddr T t x i hp Q' := by
  unfold windexAddr at h ⊢
  split at h
  · split at h
    · split at h
      · exact ⟨h.1, h.2.1, h.2.2.1, hq _ h.2.2.2⟩
      · split at h
        · exact ⟨h.1, h.2.1, h.2.2.1, h.2.2.2.1, h.2.2.2.2.1, hq _ h.2.2.2.2.2⟩
        · exact h.elim
      · exact h.elim
    · exact h.elim
  · split at h
    · split at h
      · split at h
        · exact ⟨h.1, hq _ h.2⟩
        · exact ⟨h.1, hq _ h.2⟩
        · exact ⟨h.1, hq _ h.2⟩
        · exact h.elim
      · exact h.elim
    · exact h.elim
  · exact h.elim
theorem windex_mono {x i : A} (h : windex T t x i Q) : windex T t x i Q' := by
  unfold windex at h ⊢
  split at h
  · split at h
    · exact ⟨h.1, h.2.1, hq _ h.2.2⟩
    · exact h.elim
  · split at h
    · obtain ⟨h1, h2, h⟩ := h
      refine ⟨h1, h2, ?_⟩
      split at h
      · obtain ⟨i, h3, h4, h5, h6⟩ := h; exact ⟨i, h3, h4, h5, hq _ h6⟩
      · exact h.elim
    · exact h.elim
  · exact h.elim
theorem wfieldAddr_mono {f : Nat} {x : A} (h : wfieldAddr T t f x Q) : wfieldAddr T t f x Q' := by
  unfold wfieldAddr at h ⊢
  split at h
  · refine ⟨h.1, ?_⟩
    have h := h.2
    split at h <;> first | exact hq _ h | exact h
  · exact h
theorem wfield_mono {f : Nat} {x : A} (h : wfield T t f x Q) : wfield T t f x Q' := by
  unfold wfield at h ⊢
  split at h
  · exact ⟨h.1, h.2.1, hq _ h.2.2⟩
  · exact h
theorem wbuild_mono {parts : List (Nat × A)} (h : wbuild T t parts Q) : wbuild T t parts Q' := by
  unfold wbuild at h ⊢
  split at h
  · refine ⟨h.1, ?_⟩
    have h := h.2
    split at h <;> first | exact hq _ h | exact h
  · split at h
    · split at h <;> first | exact hq _ h | exact h
    · exact h
  · exact h
theorem wmax_mono {x y : A} (h : wmax x y Q) : wmax x y Q' := by
  unfold wmax at h ⊢
  split at h <;> first | exact hq _ h | exact h
theorem wmin_mono {x y : A} (h : wmin x y Q) : wmin x y Q' := by
  unfold wmin at h ⊢
  split at h <;> first | exact hq _ h | exact h
theorem wconv_mono {s d : Nat} {x : A} (h : wconv T s d x Q) : wconv T s d x Q' := by
  unfold wconv at h ⊢
  split at h <;> first | exact hq _ h | exact h
theorem wun_mono {op : UnOp} {x : A} (h : wun op x Q) : wun op x Q' := by
  unfold wun at h ⊢
  split at h <;> first | exact hq _ h | exact h
theorem wnil_mono {x : A} (h : wnil x Q) : wnil x Q' := by
  unfold wnil at h ⊢
  split at h <;> first | exact hq _ h | exact h
omit hq
include hk
theorem wdata_mono {v : A} {K K' : D → AHeap → Prop} (hk : ∀ a h, K a h → K' a h) (h : wdata v hp K) : wdata v hp K' := by
  unfold wdata at h ⊢
  split at h
  · exact hk _ _ h
  · exact hk _ _ h
  · split at h
    · exact ⟨h.1, h.2.1, hk _ _ h.2.2⟩
    · exact h
  · exact h
omit hk
theorem wdatas_mono : ∀ (l : List A) {hp : AHeap} {K K' : List D → AHeap → Prop} (hk : ∀ a h, K a h → K' a h) (h : wdatas l hp K), wdatas l hp K'
  | [], hp, K, K', hk, h => hk _ _ h
  | v :: r, hp, K, K', hk, h => wdata_mono (K := fun _ _ => True) (K' := fun _ _ => True) (fun _ _ h => h) (fun a h' hh => wdatas_mono r (fun _ _ h => hk _ _ h) hh) h
include hk
theorem wslice_mono {x : A} {lo hi : Option A} (h : wslice T t x lo hi hp K) : wslice T t x lo hi hp K' := by
  unfold wslice at h ⊢
  dsimp only at h ⊢
  split at h
  · exact h
  · split at h
    · split at h
      · split at h
        · exact ⟨h.1, h.2.1, hk _ _ h.2.2⟩
        · exact ⟨h.1, h.2.1, h.2.2.1, hk _ _ h.2.2.2⟩
        · exact h
      · exact h
    · split at h
      · refine ⟨h.1, ?_⟩
        have h := h.2
        split at h
        · exact ⟨h.1, h.2.1, hk _ _ h.2.2⟩
        · exact ⟨h.1, h.2.1, h.2.2.1, hk _ _ h.2.2.2⟩
        · exact h
      · exact h
    · split at h
      · split at h
        · refine ⟨h.1, h.2.1, h.2.2.1, ?_⟩
          have h := h.2.2.2
          split at h
          · exact ⟨h.1, h.2.1, hk _ _ h.2.2⟩
          · exact ⟨h.1, h.2.1, h.2.2.1, hk _ _ h.2.2.2⟩
          · exact h
        · exact h
      · exact h
    · exact h
theorem wbuildSlice_mono {len : Nat} {parts : List (Nat × A)} (h : wbuildSlice T t len parts hp K) : wbuildSlice T t len parts hp K' := by
  unfold wbuildSlice at h ⊢
  split at h
  · split at h
    · refine ⟨h.1, h.2.1, ?_⟩
      have h := h.2.2
      split at h
      · exact wdatas_mono _ (fun _ _ h => hk _ _ h) h
      · exact h
    · exact h
  · exact h
theorem walloc_mono {e : Nat} {ti : TI} (h : walloc T e ti hp K) : walloc T e ti hp K' := by
  unfold walloc at h ⊢
  split at h
  · split at h
    · exact hk _ _ h
    · exact hk _ _ h
  · exact hk _ _ h
theorem wmake_mono {n c : A} (h : wmake T t n c hp K) : wmake T t n c hp K' := by
  unfold wmake at h ⊢
  split at h
  · split at h
    · exact ⟨h.1, h.2.1, h.2.2.1, h.2.2.2.1, h.2.2.2.2.1, wdatas_mono _ (fun _ _ h => hk _ _ h) h.2.2.2.2.2⟩
    · exact h
  · exact h
omit hk
theorem wsrc_mono {x : A} {K K' : Nat → (Nat → Nat → D) → Nat → AHeap → Prop} (hk : ∀ a b c h, K a b c h → K' a b c h) (h : wsrc x hp K) : wsrc x hp K' := by
  unfold wsrc at h ⊢
  split at h
  · exact hk _ _ _ _ h
  · exact hk _ _ _ _ h
  · exact hk _ _ _ _ h
  · split at h
    · exact ⟨h.1, h.2.1, hk _ _ _ _ h.2.2⟩
    · exact h
  · exact h
include hk
theorem wappend_mono {t2 : Nat} {x y : A} (h : wappend T t t2 x y hp K) : wappend T t t2 x y hp K' := by
  unfold wappend at h ⊢
  split at h
  · split at h
    · refine ⟨h.1, h.2.1, h.2.2.1, wsrc_mono ?_ h.2.2.2⟩
      intro m g sz hp h
      refine ⟨h.1, ?_⟩
      have h := h.2
      split at h
      · exact ⟨h.1, hk _ _ h.2⟩
      · split at h
        · exact ⟨h.1, h.2.1, h.2.2.1, h.2.2.2.1, h.2.2.2.2.1, h.2.2.2.2.2.1, hk _ _ h.2.2.2.2.2.2⟩
        · exact h
      · exact h
    · exact h
  · exact h
theorem wnext_mono {x : A} (h : wnext x hp K) : wnext x hp K' := by
  unfold wnext at h ⊢
  split at h
  · split at h
    · simp only [Imp_eq] at h ⊢
      exact ⟨fun a => hk _ _ (h.1 a), fun a => hk _ _ (h.2 a)⟩
    · exact h
  · exact h
omit hk
theorem wstore_mono {p v : A} {K K' : AHeap → Prop} (hk : ∀ h, K h → K' h) (h : wstore T t p v hp K) : wstore T t p v hp K' := by
  unfold wstore at h ⊢
  split at h
  · exact h
  · refine ⟨h.1, h.2.1, ?_⟩
    have h := h.2.2
    split at h
    · split at h
      · exact ⟨h.1, hk _ h.2⟩
      · exact h
    · refine wdatas_mono _ ?_ h
      intro xs hp h
      split at h
      · exact ⟨h.1, h.2.1, h.2.2.1, h.2.2.2.1, hk _ h.2.2.2.2⟩
      · exact h
    · exact h
include hk
theorem wprim_mono (he : ∀ t e xs ys Q Q', T.eq t = some e → (∀ a, Q a → Q' a) → e xs ys Q → e xs ys Q') {o : Oper} {tm : List A} (h : wprim T o tm hp K) : wprim T o tm hp K' := by
  have hq : ∀ a, K a hp → K' a hp := fun a => hk a hp
  unfold wprim at h ⊢
  split at h
  case h_24 =>
    split at h
    · split at h
      · exact wlen_mono hq h
      · exact h
    · split at h
      · exact wmax_mono hq h
      · exact h
    · split at h
      · exact wmin_mono hq h
      · exact h
    · split at h
      · exact wappend_mono hk h
      · exact h
    · exact h
  all_goals first
    | exact hk _ _ h
    | exact ⟨h.1, hk _ _ h.2⟩
    | exact wbuild_mono hq h
    | exact wbuildSlice_mono hk h
    | exact wload_mono hq h
    | exact wstore_mono (fun hp' => hk _ hp') h
    | exact wnil_mono hq h
    | exact wbin_mono hq (fun e xs ys Q Q' => he _ e xs ys Q Q') h
    | exact wun_mono hq h
    | exact wconv_mono hq h
    | exact wmake_mono hk h
    | exact walloc_mono hk h
    | exact wslice_mono hk h
    | exact wfieldAddr_mono hq h
    | exact wfield_mono hq h
    | exact windexAddr_mono hq h
    | exact windex_mono hq h
    | exact wnext_mono hk h
    | exact h.elim
    | (split at h <;> (try split at h) <;> first | exact walloc_mono hk h | exact hk _ _ h | exact ⟨h.1, wdatas_mono _ (fun _ _ h => hk _ _ h) h.2⟩ | exact ⟨h.1, hk _ _ h.2⟩ | exact h)
end mono

/-! ### Operations that yield one value, whatever comes after -/
/-- 1: a value of the slots alone; 2: a value of the slots and of what the heap holds; 0: anything else -/
def cls (T : Tab) : Op → Nat
  | .move _ | .assign _ | .pick .. | .nilCheck _ | .unOp .. | .convert .. | .fieldAddr .. | .field .. | .index .. | .extract .. | .build .. => 1
  | .makeFunc (.func _) .. => 1
  | .binOp _ t .. => match T.eq t with
    | some _ => 0
    | none => match T.ti t with
      | some ⟨.slice _, _, _, _⟩ => 0
      | _ => 1
  | .call ⟨.builtin .len, _, _⟩ | .call ⟨.builtin .max, _, _⟩ | .call ⟨.builtin .min, _, _⟩ => 1
  | .load .. | .indexAddr .. => 2
  | .slice t _ _ _ none => match T.ti t with
    | some ⟨.string, _, _, _⟩ => 1
    | _ => 0
  | _ => 0

/-- one value -/
def One (F : (A → Prop) → Prop) : Prop := ∀ Q, F Q → ∃ v, Q v ∧ ∀ Q', Q' v → F Q'

section one
variable {T : Tab} {t : Nat} {hp : AHeap}
theorem one_cmpQ {p q : Prop} (h : p ∨ q) (hn : p → ¬ q) : One (cmpQ p q) := by
  intro Q hq
  unfold cmpQ at *
  simp only [Imp_eq] at *
  rcases h with h | h
  · exact ⟨_, hq.1 h, fun Q' h' => ⟨fun _ => h', fun h2 => absurd h2 (hn h)⟩⟩
  · exact ⟨_, hq.2 h, fun Q' h' => ⟨fun h2 => absurd h (hn h2), fun _ => h'⟩⟩
theorem one_here (v : A) : One (fun Q => Q v) := fun Q h => ⟨v, h, fun _ h => h⟩
theorem one_no : One (fun _ => False) := fun Q h => h.elim
theorem One.and {F : (A → Prop) → Prop} {p : Prop} (h : One F) : One (fun Q => p ∧ F Q) := fun Q hq => by
  obtain ⟨v, h1, h2⟩ := h Q hq.2
  exact ⟨v, h1, fun Q' h' => ⟨hq.1, h2 Q' h'⟩⟩
theorem One.ex {α : Type} {F : α → (A → Prop) → Prop} (h : ∀ i, One (F i)) : One (fun Q => ∃ i, F i Q) := fun Q hq => by
  obtain ⟨i, hq⟩ := hq
  obtain ⟨v, h1, h2⟩ := h i Q hq
  exact ⟨v, h1, fun Q' h' => ⟨i, h2 Q' h'⟩⟩

theorem one_binI {op : BinOp} {k : IntKind} {x y : Int} : One (binI op k x y) := by
  intro Q hQ
  cases op <;> simp only [binI] at hQ ⊢ <;> first
    | exact one_here _ Q hQ
    | exact (one_here _).and Q hQ
    | exact hQ.elim
    | (refine one_cmpQ ?_ ?_ Q hQ <;> simp only [eqP_eq, neP_eq, ltP_eq, leP_eq] <;> omega)
theorem one_binS {op : BinOp} {x y : ByteArray} : One (binS op x y) := by
  intro Q hQ
  cases op <;> simp only [binS] at hQ ⊢ <;> first
    | exact one_here _ Q hQ
    | exact ((one_here _).and).and Q hQ
    | exact hQ.elim
    | (refine one_cmpQ ?_ ?_ Q hQ <;> simp only [eqSP_eq, neSP_eq, ltSP_eq, geSP_eq] <;> first | (cases Op.bytesLess x.toList y.toList <;> simp; done) | (by_cases e : x = y <;> simp [e]))
theorem one_binB {op : BinOp} {x y : Bool} : One (binB op x y) := by
  intro Q hQ
  cases op <;> simp only [binB] at hQ ⊢ <;> first | exact one_here _ Q hQ | exact hQ.elim
theorem one_eqB {op : BinOp} {b : Bool} : One (eqB op b) := by
  intro Q hQ
  unfold eqB at hQ ⊢
  split at hQ <;> first | exact one_here _ Q hQ | exact hQ.elim
theorem one_wbin {op : BinOp} {x y : A} (he : T.eq t = none) (hs : ∀ e a b c, T.ti t ≠ some ⟨.slice e, a, b, c⟩) : One (wbin T t op x y) := by
  intro Q hQ
  unfold wbin at hQ ⊢
  split at hQ
  · split at hQ
    · exact One.and (one_here _) Q hQ
    · exact One.and (one_here _) Q hQ
    · rename_i h1 h2
      have := One.and (p := IntKind.same _ _ = true) one_binI Q hQ
      simpa [h1, h2] using this
  · exact one_binS Q hQ
  · split at hQ
    · exact one_binB Q hQ
    · exact hQ.elim
  · simp [he] at hQ
  · unfold wnilcmp at hQ ⊢
    split at hQ
    · exact absurd ‹_› (hs _ _ _ _)
    · split at hQ <;> first | exact one_eqB Q hQ | exact hQ.elim
    · exact hQ.elim
theorem one_wload {p : A} : One (wload T t p hp) := by
  intro Q h
  unfold wload at h ⊢
  split at h
  · exact h.elim
  · split at h
    · split at h
      · exact ((one_here _).and).and Q h
      · exact h.elim
    · split at h
      · exact ((((one_here _).and).and).and).and Q h
      · exact h.elim
    · exact ((one_here _).and).and Q h
    · exact h.elim
theorem one_wlen {x : A} : One (wlen T t x) := by
  intro Q h
  unfold wlen at h ⊢
  split at h <;> first | exact one_here _ Q h | exact h.elim
theorem one_windexAddr {x i : A} : One (windexAddr T t x i hp) := by
  intro Q h
  unfold windexAddr at h ⊢
  split at h
  · split at h
    · split at h
      · exact (((one_here _).and).and).and Q h
      · split at h
        · exact (((((one_here _).and).and).and).and).and Q h
        · exact h.elim
      · exact h.elim
    · exact h.elim
  · split at h
    · split at h
      · split at h
        · exact (one_here _).and Q h
        · exact (one_here _).and Q h
        · exact (one_here _).and Q h
        · exact h.elim
      · exact h.elim
    · exact h.elim
  · exact h.elim
theorem one_windex {x i : A} : One (windex T t x i) := by
  intro Q h
  unfold windex at h ⊢
  split at h
  · split at h
    · exact ((one_here _).and).and Q h
    · exact h.elim
  · split at h
    · split at h
      · refine ((One.ex fun i => ?_).and).and Q h
        exact ((one_here _).and.and).and
      · exact h.2.2.elim
    · exact h.elim
  · exact h.elim
theorem one_wfieldAddr {f : Nat} {x : A} : One (wfieldAddr T t f x) := by
  intro Q h
  unfold wfieldAddr at h ⊢
  split at h
  · split at h
    · exact (one_here _).and Q h
    · exact (one_here _).and Q h
    · exact (one_here _).and Q h
    · exact h.2.elim
  · exact h.elim
theorem one_wfield {f : Nat} {x : A} : One (wfield T t f x) := by
  intro Q h
  unfold wfield at h ⊢
  split at h
  · exact ((one_here _).and).and Q h
  · exact h.elim
theorem one_wbuild {parts : List (Nat × A)} : One (wbuild T t parts) := by
  intro Q h
  unfold wbuild at h ⊢
  split at h
  · split at h
    · exact (one_here _).and Q h
    · exact h.2.elim
  · split at h
    · split at h
      · exact one_here _ Q h
      · exact h.elim
    · exact h.elim
  · exact h.elim
theorem one_wmax {x y : A} : One (wmax x y) := by
  intro Q h
  unfold wmax at h ⊢
  split at h <;> first | exact one_here _ Q h | exact h.elim
theorem one_wmin {x y : A} : One (wmin x y) := by
  intro Q h
  unfold wmin at h ⊢
  split at h <;> first | exact one_here _ Q h | exact h.elim
theorem one_wconv {s d : Nat} {x : A} : One (wconv T s d x) := by
  intro Q h
  unfold wconv at h ⊢
  split at h <;> first | exact one_here _ Q h | exact h.elim
theorem one_wun {op : UnOp} {x : A} : One (wun op x) := by
  intro Q h
  unfold wun at h ⊢
  split at h <;> first | exact one_here _ Q h | exact h.elim
theorem one_wnil {x : A} : One (wnil x) := by
  intro Q h
  unfold wnil at h ⊢
  split at h <;> first | exact one_here _ Q h | exact h.elim

theorem slice_string {t : Nat} {x : A} {lo hi : Option A} {K : A → AHeap → Prop} {n b : Nat} {z : List A} (ht : T.ti t = some ⟨.string, n, b, z⟩) (h : wslice T t x lo hi hp K) : ∃ v, K v hp ∧ ∀ hp' K', K' v hp' → wslice T t x lo hi hp' K' := by
  unfold wslice at h ⊢
  simp only [ht] at h ⊢
  split at h
  · exact h.elim
  · rename_i hl
    split at h
    · split at h
      · exact ⟨_, h.2.2, fun _ _ hk => ⟨h.1, h.2.1, hk⟩⟩
      · exact ⟨_, h.2.2.2, fun _ _ hk => ⟨h.1, h.2.1, h.2.2.1, hk⟩⟩
      · exact h.elim
    · exact h.elim
    · split at h
      · exact h.elim
      · exact h.elim
    · exact h.elim

theorem one_of {F : (A → Prop) → Prop} (h : One F) {K : A → AHeap → Prop} (hf : F (fun a => K a hp)) : ∃ v, K v hp ∧ ∀ hp' K', K' v hp' → F (fun a => (K' : A → AHeap → Prop) a hp') :=
  let ⟨v, h1, h2⟩ := h _ hf
  ⟨v, h1, fun hp' K' hk => h2 _ hk⟩

theorem one_wprim {o : Oper} {tm : List A} {K : A → AHeap → Prop} (hc : cls T o.op ≠ 0) (h : wprim T o tm hp K) :
    ∃ v, K v hp ∧ (∀ K', K' v hp → wprim T o tm hp K') ∧ (cls T o.op = 1 → ∀ hp' K', K' v hp' → wprim T o tm hp' K') := by
  have fin1 : ∀ {F : AHeap → (A → AHeap → Prop) → Prop}, (∃ v, K v hp ∧ ∀ hp' K', K' v hp' → F hp' K') → ∃ v, K v hp ∧ (∀ K', K' v hp → F hp K') ∧ (cls T o.op = 1 → ∀ hp' K', K' v hp' → F hp' K') :=
    fun ⟨v, h1, h2⟩ => ⟨v, h1, fun K' hk => h2 _ K' hk, fun _ => h2⟩
  unfold wprim at h ⊢
  split at h
  case h_24 _ c hop =>
    split at h
    · split at h
      · exact fin1 (one_of one_wlen h)
      · exact h.elim
    · split at h
      · exact fin1 (one_of one_wmax h)
      · exact h.elim
    · split at h
      · exact fin1 (one_of one_wmin h)
      · exact h.elim
    · rename_i hcal
      obtain ⟨cal, asx, ts⟩ := c
      simp only at hcal
      subst hcal
      exact absurd (by rw [hop]; rfl) hc
    · exact h.elim
  case h_11 _ op t x y yt hop =>
    cases he : T.eq t with
    | some e => exact absurd (by rw [hop]; simp [cls, he]) hc
    | none => exact fin1 (one_of (one_wbin he (fun e a b c ht => absurd (by rw [hop]; simp [cls, he, ht]) hc)) h)
  case h_8 _ t x hop =>
    obtain ⟨v, h1, h2⟩ := one_of one_wload h
    exact ⟨v, h1, fun K' hk => h2 hp K' hk, fun h => by rw [hop] at h; exact absurd h (by simp [cls])⟩
  case h_19 _ t x i hop =>
    obtain ⟨v, h1, h2⟩ := one_of one_windexAddr h
    exact ⟨v, h1, fun K' hk => h2 hp K' hk, fun h => by rw [hop] at h; exact absurd h (by simp [cls])⟩
  case h_16 _ t x lo hi hop =>
    cases ht : T.ti t with
    | none => exact absurd (by rw [hop]; simp [cls, ht]) hc
    | some ti =>
      obtain ⟨kd, n, b, z⟩ := ti
      cases kd with
      | string => exact fin1 (slice_string ht h)
      | _ => exact absurd (by rw [hop]; simp [cls, ht]) hc
  case h_25 => exact h.elim
  all_goals rename_i hop
  all_goals first
    | exact absurd (by rw [hop]; rfl) hc
    | exact fin1 ⟨_, h, fun _ _ h => h⟩
    | exact fin1 (one_of one_wbuild h)
    | exact fin1 (one_of one_wfieldAddr h)
    | exact fin1 (one_of one_wfield h)
    | exact fin1 (one_of one_windex h)
    | exact fin1 (one_of one_wun h)
    | exact fin1 (one_of one_wconv h)
    | exact fin1 (one_of one_wnil h)
    | (split at h <;> (try split at h) <;> first | exact fin1 ⟨_, h, fun _ _ h => h⟩ | exact ⟨_, h.2, fun _ h' => ⟨h.1, h'⟩, fun _ _ _ h' => ⟨h.1, h'⟩⟩ | exact h.elim)
end one

/-! ### One operation, calls and guards included -/
/-- a call of a function of the program -/
inductive CallW (P : Unit → Program) (K : FuncId) (args : List A) (H : AHeap) (R : A → AHeap → Prop) : Prop
  | mk (h : VCalls (P ()) K args H R)
theorem CallW_eq (P : Unit → Program) (K : FuncId) (args : List A) (H : AHeap) (R : A → AHeap → Prop) : CallW P K args H R = VCalls (P ()) K args H R := propext ⟨fun ⟨h⟩ => h, .mk⟩

def wopR (P : Unit → Program) (T : Unit → Tab) (o : Oper) (tm : List A) (hp : AHeap) (K : A → AHeap → Prop) : Prop :=
  match o.op with
  | .call ⟨.value f, args, _⟩ =>
    match ev tm f with
    | .clo k first caps => (T ()).fn k = true ∧ CallW P k (first ++ args.toList.map (ev tm) ++ caps) hp K
    | _ => False
  | _ => wprim (T ()) o tm hp K

def gdst (all : List Oper) (j : Nat) : Option Nat :=
  match getL (all.map some) j none with
  | some o => o.dst
  | none => none

/-- a guard's yield -/
def yieldA (all : List Oper) (j : Nat) (tm : List A) : Option (Option Bool) :=
  match gdst all j with
  | some d => match getL tm d .undef with
    | .d (.bool b) => some (some b)
    | .tup _ => some none
    | _ => none
  | none => none

def wopG (P : Unit → Program) (T : Unit → Tab) (all : List Oper) (o : Oper) (tm : List A) (hp : AHeap) (K : A → AHeap → Prop) : Prop :=
  match o.guard with
  | none => wopR P T o tm hp K
  | some (j, want) =>
    match yieldA all j tm with
    | some (some b) => (match Bool.same b want with
      | true => wopR P T o tm hp K
      | false => K (.tup []) hp)
    | some none => K (.tup []) hp
    | none => False

/-- what an operation reads -/
def opnds : Op → List Operand
  | .move x | .assign x | .box _ x | .load _ x | .nilCheck x | .unOp _ _ x | .convert _ _ x | .fieldAddr _ x _ | .field _ x _ | .range _ x | .next x _ | .extract x _ => [x]
  | .pick a b c => [a, b, c]
  | .build _ ps | .buildSlice _ _ ps => ps.toList.map (·.2)
  | .store _ x y | .binOp _ _ x y _ | .makeSlice _ x y | .indexAddr _ x y | .index _ x y => [x, y]
  | .makeFunc _ a b => a.toList ++ b.toList
  | .slice _ x lo hi _ => x :: (lo.toList ++ hi.toList)
  | .call ⟨.value f, args, _⟩ => f :: args.toList
  | .call ⟨_, args, _⟩ => args.toList
  | _ => []

def hasT : List Operand → Nat → Bool
  | [], _ => false
  | .tmp t :: r, d => (match Nat.beq t d with
    | true => true
    | false => hasT r d)
  | _ :: r, d => hasT r d

def isD : Option Nat → Nat → Bool
  | some t, d => Nat.beq t d
  | none, _ => false

def looksAt (all : List Oper) (o : Oper) (d : Nat) : Bool :=
  match hasT (opnds o.op) d with
  | true => true
  | false => match o.guard with
    | some (j, _) => isD (gdst all j) d
    | none => false

theorem hasT_mem : ∀ {l : List Operand} {d : Nat}, hasT l d = false → ∀ x ∈ l, x ≠ .tmp d
  | [], _, _, x, hx => by cases hx
  | y :: r, d, h, x, hx => by
    cases y with
    | tmp t =>
      simp only [hasT] at h
      split at h
      · cases h
      · rename_i hb
        cases hx with
        | head => intro e; cases e; rw [Nat.beq_refl] at hb; cases hb
        | tail _ hx => exact hasT_mem h x hx
    | _ => cases hx with
      | head => intro e; cases e
      | tail _ hx => exact hasT_mem (by simpa [hasT] using h) x hx

theorem ev_setL {tm : List A} {d : Nat} {v : A} {x : Operand} (h : x ≠ .tmp d) : ev (setL tm d v) x = ev tm x := by
  cases x with
  | tmp t =>
    have hne : d ≠ t := fun e => h (by rw [e])
    simp only [ev, getL_eq, setL_eq]
    simp [List.getD_eq_getElem?_getD, List.getElem?_set_ne hne]
  | _ => rfl

theorem wopR_congr {P : Unit → Program} {T : Unit → Tab} {o : Oper} {tm tm' : List A} {hp : AHeap} {K : A → AHeap → Prop} (h : ∀ x ∈ opnds o.op, ev tm x = ev tm' x) : wopR P T o tm hp K = wopR P T o tm' hp K := by
  have maps : ∀ l : List Operand, (∀ x ∈ l, ev tm x = ev tm' x) → l.map (ev tm) = l.map (ev tm') := fun l hl => List.map_congr_left hl
  have pairs : ∀ ps : List (Nat × Operand), (∀ x ∈ ps.map (·.2), ev tm x = ev tm' x) → (ps.map fun (i, x) => (i, ev tm x)) = (ps.map fun (i, x) => (i, ev tm' x)) := fun ps hp =>
    List.map_congr_left fun p hm => by
      obtain ⟨i, x⟩ := p
      simp only [hp x (List.mem_map.2 ⟨(i, x), hm, rfl⟩)]
  obtain ⟨dst, op, type, pos, after, guard⟩ := o
  cases op
  case call c =>
    obtain ⟨cal, args, ts⟩ := c
    cases cal with
    | value f =>
      simp only [opnds] at h
      simp only [wopR]
      rw [h f (by simp), maps args.toList fun x hx => h x (by simp [hx])]
    | builtin b =>
      simp only [opnds] at h
      simp only [wopR, wprim]
      cases b <;> first
        | rfl
        | (rcases args with ⟨_ | ⟨x, _ | ⟨y, _ | ⟨z, r⟩⟩⟩⟩ <;> rcases ts with ⟨_ | ⟨t1, _ | ⟨t2, _ | ⟨t3, r3⟩⟩⟩⟩ <;> simp_all)
    | _ => rfl
  case build t ps => simp only [opnds] at h; simp only [wopR, wprim]; rw [pairs _ h]
  case buildSlice t n ps => simp only [opnds] at h; simp only [wopR, wprim]; rw [pairs _ h]
  case makeFunc f a b =>
    simp only [opnds] at h
    cases f <;> simp only [wopR, wprim]
    rw [maps _ fun x hx => h x (by simp only [List.mem_append]; exact .inl hx), maps _ fun x hx => h x (by simp only [List.mem_append]; exact .inr hx)]
  case slice t x lo hi mx => cases lo <;> cases hi <;> cases mx <;> simp_all [opnds, wopR, wprim]
  case next x b => cases b <;> simp_all [opnds, wopR, wprim]
  all_goals first
    | rfl
    | (simp_all [opnds, wopR, wprim]; done)

theorem put_put {tm : List A} {x y : Option Nat} {v u : A} (h : ∀ d, x = some d → y ≠ some d) : put (put tm x v) y u = put (put tm y u) x v := by
  cases x with
  | none => rfl
  | some d => cases y with
    | none => rfl
    | some e =>
      have hne : d ≠ e := fun he => h d rfl (by rw [he])
      simp only [put, setL_eq]
      exact List.set_comm _ _ hne

def readsNot (all : List Oper) (o : Oper) (x : Option Nat) : Prop := ∀ d, x = some d → looksAt all o d = false

theorem wopG_put {P : Unit → Program} {T : Unit → Tab} {all : List Oper} {o : Oper} {tm : List A} {hp : AHeap} {K : A → AHeap → Prop} {x : Option Nat} {v : A} (h : readsNot all o x) : wopG P T all o (put tm x v) hp K = wopG P T all o tm hp K := by
  cases x with
  | none => rfl
  | some d =>
    have h := h d rfl
    unfold looksAt at h
    split at h
    · cases h
    · rename_i h1
      have e1 : wopR P T o (put tm (some d) v) hp K = wopR P T o tm hp K := wopR_congr fun x hx => ev_setL (hasT_mem h1 x hx)
      unfold wopG
      split at h
      · rename_i j want hg
        have e2 : yieldA all j (put tm (some d) v) = yieldA all j tm := by
          unfold yieldA
          cases hd : gdst all j with
          | none => rfl
          | some t =>
            have hne : d ≠ t := fun e => by
              rw [hd, e] at h
              simp [isD] at h
            simp only [put, getL_eq, setL_eq]
            simp [List.getD_eq_getElem?_getD, List.getElem?_set_ne hne]
        simp only [hg, e2, e1]
      · rename_i hg
        simp only [hg, e1]

theorem wopG_mono {P : Unit → Program} {T : Unit → Tab} (he : ∀ t e xs ys Q Q', (T ()).eq t = some e → (∀ a, Q a → Q' a) → e xs ys Q → e xs ys Q') {all : List Oper} {o : Oper} {tm : List A} {hp : AHeap} {K K' : A → AHeap → Prop} (hk : ∀ a h, K a h → K' a h) (h : wopG P T all o tm hp K) : wopG P T all o tm hp K' := by
  have hR : wopR P T o tm hp K → wopR P T o tm hp K' := fun h => by
    unfold wopR at h ⊢
    split at h
    · split at h
      · rw [CallW_eq] at h ⊢
        exact ⟨h.1, h.2.mono hk⟩
      · exact h
    · exact wprim_mono hk he h
  unfold wopG at h ⊢
  split at h
  · exact hR h
  · split at h
    · split at h
      · exact hR h
      · exact hk _ _ h
    · exact hk _ _ h
    · exact h

theorem one_wopG {P : Unit → Program} {T : Unit → Tab} {all : List Oper} {o : Oper} {tm : List A} {hp : AHeap} {K : A → AHeap → Prop} (hc : cls (T ()) o.op ≠ 0) (h : wopG P T all o tm hp K) :
    ∃ v, K v hp ∧ (∀ K', K' v hp → wopG P T all o tm hp K') ∧ (cls (T ()) o.op = 1 → ∀ hp' K', K' v hp' → wopG P T all o tm hp' K') := by
  have hR : ∀ hp' K', wopR P T o tm hp' K' = wprim (T ()) o tm hp' K' := fun hp' K' => by
    unfold wopR
    split
    · rename_i heq
      rw [heq] at hc
      exact absurd rfl hc
    · rfl
  unfold wopG at h ⊢
  split at h
  · simp only [hR] at h ⊢
    exact one_wprim hc h
  · split at h
    · split at h
      · simp only [hR] at h ⊢
        exact one_wprim hc h
      · exact ⟨_, h, fun _ h => h, fun _ _ _ h => h⟩
    · exact ⟨_, h, fun _ h => h, fun _ _ _ h => h⟩
    · exact h.elim
end Go.VM

/- Regions that draw the order of their operations: every order, looked at once where the order does not matter. -/
set_option linter.unusedSimpArgs false
set_option linter.unusedVariables false
set_option linter.unusedSectionVars false
namespace Go.VM
open Ops
variable [Ops] [Glb] [Lim]

def edgeOk (listed : List Bool) (e : Edge) : Bool :=
  match e.ground with
  | .textOnly _ | .gcOnly _ => true
  | _ => getL listed e.on false

def edgesOk (listed : List Bool) : List Edge → Bool
  | [] => true
  | e :: r => match edgeOk listed e with
    | true => edgesOk listed r
    | false => false

def rdy (listed : List Bool) (i : Nat) (o : Oper) : Bool :=
  match getL listed i true with
  | true => false
  | false => edgesOk listed o.after.toList

/-- an edge on i that binds -/
def onI (i : Nat) : List Edge → Bool
  | [] => false
  | e :: r => match e.ground with
    | .textOnly _ | .gcOnly _ => onI i r
    | _ => match Nat.beq e.on i with
      | true => true
      | false => onI i r

def apartB (all : List Oper) (x y : Oper) : Bool :=
  (match x.dst with
  | some d => (match looksAt all y d with | true => false | false => !isD y.dst d)
  | none => true) &&
  (match y.dst with
  | some d => !looksAt all x d
  | none => true)

def freeB (T : Tab) (all : List Oper) (listed : List Bool) (i : Nat) (x : Oper) : Nat → List Oper → Bool
  | _, [] => true
  | j, y :: r => (match Nat.beq j i with
    | true => true
    | false => match getL listed j true with
      | true => true
      | false => match onI i y.after.toList with
        | true => true
        | false => apartB all x y && (Nat.beq (cls T x.op) 1 || !Nat.beq (cls T y.op) 0)) && freeB T all listed i x (j + 1) r

def findI (f : Nat → Oper → Bool) : Nat → List Oper → Option (Nat × Oper)
  | _, [] => none
  | i, o :: r => match f i o with
    | true => some (i, o)
    | false => findI f (i + 1) r

def eachI (f : Nat → Oper → Bool) (g : Nat → Oper → Prop) : Nat → List Oper → Prop
  | _, [] => True
  | i, o :: r => match f i o with
    | true => g i o ∧ eachI f g (i + 1) r
    | false => eachI f g (i + 1) r

def quiet (T : Tab) (all : List Oper) (listed : List Bool) (i : Nat) (o : Oper) : Bool :=
  match rdy listed i o with
  | false => false
  | true => match Nat.beq (cls T o.op) 0 with
    | true => false
    | false => freeB T all listed i o 0 all

/-- a binding edge on i, or on what waits for i -/
def onDep (dep : List Bool) (i : Nat) : List Edge → Bool
  | [] => false
  | e :: r => match e.ground with
    | .textOnly _ | .gcOnly _ => onDep dep i r
    | _ => match Nat.beq e.on i with
      | true => true
      | false => match getL dep e.on false with
        | true => true
        | false => onDep dep i r
def snocB : List Bool → Bool → List Bool
  | [], b => [b]
  | x :: r, b => x :: snocB r b
/-- what waits for i, straight or through others -/
def depsL (i : Nat) : List Bool → List Oper → List Bool
  | acc, [] => acc
  | acc, o :: r => depsL i (snocB acc (onDep acc i o.after.toList)) r
def depFree : List Bool → List Bool → Bool
  | true :: r, l => match l with
    | true :: _ => false
    | false :: l => depFree r l
    | [] => depFree r []
  | false :: r, l => match l with
    | _ :: l => depFree r l
    | [] => depFree r []
  | [], _ => true
def freeD (T : Tab) (all : List Oper) (listed dep : List Bool) (i : Nat) (x : Oper) : Nat → List Oper → Bool
  | _, [] => true
  | j, y :: r => (match Nat.beq j i with
    | true => true
    | false => match getL listed j true with
      | true => true
      | false => match getL dep j false with
        | true => true
        | false => apartB all x y && (Nat.beq (cls T x.op) 1 || !Nat.beq (cls T y.op) 0)) && freeD T all listed dep i x (j + 1) r
/-- quiet, with an eye on what waits through others -/
def quiet2 (T : Tab) (all : List Oper) (listed : List Bool) (i : Nat) (o : Oper) : Bool :=
  match rdy listed i o with
  | false => false
  | true => match Nat.beq (cls T o.op) 0 with
    | true => false
    | false => match depFree (depsL i [] all) listed with
      | false => false
      | true => freeD T all listed (depsL i [] all) i o 0 all

def isDd : A → Bool
  | .d _ => true
  | _ => false
def isIp : A → Bool
  | .iptr _ _ _ _ => true
  | _ => false
/-- an operation on data alone, as the slots stand: what it gives does not depend on the heap -/
def slOk (tm : List A) (o : Oper) : Bool :=
  match o.op with
  | .slice _ x _ _ none => isDd (ev tm x)
  | .load _ a => isIp (ev tm a)
  | .indexAddr _ x _ => isDd (ev tm x)
  | _ => false
def freeA (all : List Oper) (listed dep : List Bool) (i : Nat) (x : Oper) : Nat → List Oper → Bool
  | _, [] => true
  | j, y :: r => (match Nat.beq j i with
    | true => true
    | false => match getL listed j true with
      | true => true
      | false => match getL dep j false with
        | true => true
        | false => apartB all x y) && freeA all listed dep i x (j + 1) r
/-- quiet, for its operands are data -/
def quiet3 (all : List Oper) (listed : List Bool) (tm : List A) (i : Nat) (o : Oper) : Bool :=
  match rdy listed i o with
  | false => false
  | true => match slOk tm o with
    | false => false
    | true => match depFree (depsL i [] all) listed with
      | false => false
      | true => freeA all listed (depsL i [] all) i o 0 all

def wdraw (P : Unit → Program) (T : Unit → Tab) (all : List Oper) : Nat → List Bool → St → (St → Prop) → Prop
  | 0, listed, σ, K => match findI (rdy listed) 0 all with
    | none => K σ
    | some _ => False
  | f + 1, listed, σ, K => match findI (quiet (T ()) all listed) 0 all with
    | some (i, o) => wopG P T all o σ.tm σ.hp (fun r hp => wdraw P T all f (setL listed i true) ⟨put σ.tm o.dst r, hp⟩ K)
    | none => match findI (quiet2 (T ()) all listed) 0 all with
      | some (i, o) => wopG P T all o σ.tm σ.hp (fun r hp => wdraw P T all f (setL listed i true) ⟨put σ.tm o.dst r, hp⟩ K)
      | none => match findI (quiet3 all listed σ.tm) 0 all with
       | some (i, o) => wopG P T all o σ.tm σ.hp (fun r hp => wdraw P T all f (setL listed i true) ⟨put σ.tm o.dst r, hp⟩ K)
       | none => match findI (rdy listed) 0 all with
        | none => K σ
        | some _ => eachI (rdy listed) (fun i o => wopG P T all o σ.tm σ.hp (fun r hp => wdraw P T all f (setL listed i true) ⟨put σ.tm o.dst r, hp⟩ K)) 0 all

/-- every order -/
def wany (P : Unit → Program) (T : Unit → Tab) (all : List Oper) : Nat → List Bool → St → (St → Prop) → Prop
  | 0, listed, σ, K => (∀ i o, all[i]? = some o → rdy listed i o = false) ∧ K σ
  | f + 1, listed, σ, K => ((∀ i o, all[i]? = some o → rdy listed i o = false) → K σ) ∧
    ∀ i o, all[i]? = some o → rdy listed i o = true → wopG P T all o σ.tm σ.hp (fun r hp => wany P T all f (setL listed i true) ⟨put σ.tm o.dst r, hp⟩ K)

theorem findI_none {f : Nat → Oper → Bool} : ∀ {l : List Oper} {k : Nat}, findI f k l = none → ∀ i o, l[i]? = some o → f (k + i) o = false
  | [], _, _, i, o, h => by simp at h
  | x :: r, k, hn, i, o, h => by
    simp only [findI] at hn
    split at hn
    · cases hn
    · rename_i hx
      cases i with
      | zero => simp at h; subst h; exact hx
      | succ i => rw [show k + (i + 1) = k + 1 + i by omega]; exact findI_none hn i o (by simpa using h)

theorem findI_some {f : Nat → Oper → Bool} : ∀ {l : List Oper} {k i : Nat} {o : Oper}, findI f k l = some (i, o) → k ≤ i ∧ l[i - k]? = some o ∧ f i o = true
  | [], _, _, _, h => by cases h
  | x :: r, k, i, o, h => by
    simp only [findI] at h
    split at h
    · rename_i hx
      cases h
      exact ⟨Nat.le_refl _, by simp, hx⟩
    · obtain ⟨h1, h2, h3⟩ := findI_some h
      refine ⟨by omega, ?_, h3⟩
      rw [show i - k = i - (k + 1) + 1 by omega]
      simpa using h2

theorem eachI_all {f : Nat → Oper → Bool} {g : Nat → Oper → Prop} : ∀ {l : List Oper} {k : Nat}, eachI f g k l → ∀ i o, l[i]? = some o → f (k + i) o = true → g (k + i) o
  | [], _, _, i, o, h, _ => by simp at h
  | x :: r, k, he, i, o, h, hf => by
    simp only [eachI] at he
    cases i with
    | zero =>
      simp at h; subst h
      rw [show f k x = true from hf] at he
      exact he.1
    | succ i =>
      rw [show k + (i + 1) = k + 1 + i by omega] at hf ⊢
      split at he
      · exact eachI_all he.2 i o (by simpa using h) hf
      · exact eachI_all he i o (by simpa using h) hf

theorem freeB_spec {T : Tab} {all : List Oper} {listed : List Bool} {i : Nat} {x : Oper} : ∀ {l : List Oper} {k : Nat}, freeB T all listed i x k l = true → ∀ j y, l[j]? = some y → k + j ≠ i → getL listed (k + j) true = false → onI i y.after.toList = false → apartB all x y = true ∧ (cls T x.op = 1 ∨ cls T y.op ≠ 0)
  | [], _, _, j, y, h, _, _, _ => by simp at h
  | z :: r, k, hf, j, y, h, hne, hun, hon => by
    simp only [freeB, Bool.and_eq_true] at hf
    cases j with
    | zero =>
      simp at h; subst h
      have hf := hf.1
      have hb : Nat.beq k i = false := by
        cases hb : Nat.beq k i with
        | false => rfl
        | true => exact absurd (Nat.eq_of_beq_eq_true hb) hne
      simp only [Nat.add_zero] at hun
      simp only [hb, hun, hon, Bool.and_eq_true, Bool.or_eq_true, Bool.not_eq_true', Nat.beq_eq] at hf
      refine ⟨hf.1, hf.2.imp id fun h => ?_⟩
      intro e
      rw [e] at h
      cases h
    | succ j =>
      exact freeB_spec hf.2 j y (by simpa using h) (by omega) (by rw [show k + 1 + j = k + (j + 1) by omega]; exact hun) hon

theorem freeD_spec {T : Tab} {all : List Oper} {listed dep : List Bool} {i : Nat} {x : Oper} : ∀ {l : List Oper} {k : Nat}, freeD T all listed dep i x k l = true → ∀ j y, l[j]? = some y → k + j ≠ i → getL listed (k + j) true = false → getL dep (k + j) false = false → apartB all x y = true ∧ (cls T x.op = 1 ∨ cls T y.op ≠ 0)
  | [], _, _, j, y, h, _, _, _ => by simp at h
  | z :: r, k, hf, j, y, h, hne, hun, hon => by
    simp only [freeD, Bool.and_eq_true] at hf
    cases j with
    | zero =>
      simp at h; subst h
      have hf := hf.1
      have hb : Nat.beq k i = false := by
        cases hb : Nat.beq k i with
        | false => rfl
        | true => exact absurd (Nat.eq_of_beq_eq_true hb) hne
      simp only [Nat.add_zero] at hun hon
      simp only [hb, hun, hon, Bool.and_eq_true, Bool.or_eq_true, Bool.not_eq_true', Nat.beq_eq] at hf
      refine ⟨hf.1, hf.2.imp id fun h => ?_⟩
      intro e
      rw [e] at h
      cases h
    | succ j =>
      exact freeD_spec hf.2 j y (by simpa using h) (by omega) (by rw [show k + 1 + j = k + (j + 1) by omega]; exact hun) (by rw [show k + 1 + j = k + (j + 1) by omega]; exact hon)
theorem freeA_spec {all : List Oper} {listed dep : List Bool} {i : Nat} {x : Oper} : ∀ {l : List Oper} {k : Nat}, freeA all listed dep i x k l = true → ∀ j y, l[j]? = some y → k + j ≠ i → getL listed (k + j) true = false → getL dep (k + j) false = false → apartB all x y = true
  | [], _, _, j, y, h, _, _, _ => by simp at h
  | z :: r, k, hf, j, y, h, hne, hun, hon => by
    simp only [freeA, Bool.and_eq_true] at hf
    cases j with
    | zero =>
      simp at h; subst h
      have hf := hf.1
      have hb : Nat.beq k i = false := by
        cases hb : Nat.beq k i with
        | false => rfl
        | true => exact absurd (Nat.eq_of_beq_eq_true hb) hne
      simp only [Nat.add_zero] at hun hon
      simpa only [hb, hun, hon] using hf
    | succ j =>
      exact freeA_spec hf.2 j y (by simpa using h) (by omega) (by rw [show k + 1 + j = k + (j + 1) by omega]; exact hun) (by rw [show k + 1 + j = k + (j + 1) by omega]; exact hon)
theorem snocB_eq (l : List Bool) (b : Bool) : snocB l b = l ++ [b] := by
  induction l with
  | nil => rfl
  | cons x r ih => simp [snocB, ih]
theorem onDep_mono {dep dep' : List Bool} {i : Nat} (h : ∀ z, getL dep z false = true → getL dep' z false = true) : ∀ {es : List Edge}, onDep dep i es = true → onDep dep' i es = true
  | [], h2 => by cases h2
  | e :: r, h2 => by
    have ih := onDep_mono (i := i) h (es := r)
    unfold onDep at h2 ⊢
    cases hg : e.ground <;> simp only [hg] at h2 ⊢ <;> (try exact ih h2)
    all_goals
      cases hb : Nat.beq e.on i with
      | true => rfl
      | false =>
        simp only [hb] at h2 ⊢
        cases hd : getL dep e.on false with
        | true => rw [h _ hd]
        | false =>
          simp only [hd] at h2
          cases getL dep' e.on false with
          | true => rfl
          | false => exact ih h2
theorem depsL_ge (i : Nat) : ∀ (r : List Oper) (acc : List Bool) (z : Nat), z < acc.length → getL (depsL i acc r) z false = getL acc z false
  | [], acc, z, hz => rfl
  | o :: r, acc, z, hz => by
    rw [depsL, depsL_ge i r _ z (by rw [snocB_eq]; simp; omega), snocB_eq]
    simp only [getL_eq, List.getD_eq_getElem?_getD]
    rw [List.getElem?_append_left hz]
theorem depsL_spec (i : Nat) : ∀ (r : List Oper) (acc : List Bool) (j : Nat) (y : Oper), r[j]? = some y → getL (depsL i acc r) (acc.length + j) false = true → onDep (depsL i acc r) i y.after.toList = true
  | [], acc, j, y, h, _ => by simp at h
  | o :: r, acc, j, y, h, hd => by
    cases j with
    | zero =>
      simp at h; subst h
      rw [depsL] at hd ⊢
      rw [Nat.add_zero, depsL_ge i r _ acc.length (by rw [snocB_eq]; simp)] at hd
      have h1 : onDep acc i o.after.toList = true := by
        rw [snocB_eq] at hd
        simpa [getL_eq, List.getD_eq_getElem?_getD] using hd
      refine onDep_mono (fun z hz => ?_) h1
      have hlt : z < acc.length := by
        rcases Nat.lt_or_ge z acc.length with h' | h'
        · exact h'
        · simp [getL_eq, List.getD_eq_getElem?_getD, List.getElem?_eq_none h'] at hz
      rw [depsL_ge i r _ z (by rw [snocB_eq]; simp; omega), snocB_eq]
      simp only [getL_eq, List.getD_eq_getElem?_getD] at hz ⊢
      rw [List.getElem?_append_left hlt]
      exact hz
    | succ j =>
      rw [depsL] at hd ⊢
      refine depsL_spec i r _ j y (by simpa using h) ?_
      rw [snocB_eq] at hd ⊢
      rw [show (acc ++ [onDep acc i o.after.toList]).length + j = acc.length + (j + 1) by simp; omega]
      exact hd
theorem depFree_spec : ∀ {dep listed : List Bool}, depFree dep listed = true → ∀ z, getL dep z false = true → getL listed z false = false
  | [], l, _, z, hz => by simp [getL_eq] at hz
  | true :: r, l, h, z, hz => by
    match l, h with
    | false :: l, h =>
      cases z with
      | zero => rfl
      | succ z => exact depFree_spec (dep := r) (listed := l) h z (by simpa [getL] using hz)
    | [], h => simp [getL_eq]
  | false :: r, l, h, z, hz => by
    match l, h with
    | x :: l, h =>
      cases z with
      | zero => simp [getL] at hz
      | succ z => exact depFree_spec (dep := r) (listed := l) h z (by simpa [getL] using hz)
    | [], h => simp [getL_eq]

theorem getL_setL_ne {l : List Bool} {i j : Nat} {d : Bool} (h : i ≠ j) : getL (setL l i true) j d = getL l j d := by
  simp only [getL_eq, setL_eq]
  simp [List.getD_eq_getElem?_getD, List.getElem?_set_ne h]

theorem getL_setL_true {l : List Bool} {i j : Nat} (h : getL l j false = true) : getL (setL l i true) j false = true := by
  by_cases e : i = j
  · subst e
    simp only [getL_eq, setL_eq, List.getD_eq_getElem?_getD] at h ⊢
    have hlt : i < l.length := by
      rcases Nat.lt_or_ge i l.length with h' | h'
      · exact h'
      · simp [List.getElem?_eq_none h'] at h
    simp [List.getElem?_set, hlt]
  · rw [getL_setL_ne e]; exact h

theorem edgesOk_mono {l : List Bool} {i : Nat} : ∀ {es : List Edge}, edgesOk l es = true → edgesOk (setL l i true) es = true
  | [], _ => rfl
  | e :: r, h => by
    simp only [edgesOk] at h ⊢
    split at h
    · rename_i he
      have : edgeOk (setL l i true) e = true := by
        unfold edgeOk at he ⊢
        split at he
        · rfl
        · rfl
        · exact getL_setL_true he
      rw [this]
      exact edgesOk_mono h
    · cases h

theorem rdy_mono {l : List Bool} {i j : Nat} {o : Oper} (h : rdy l j o = true) (hne : i ≠ j) : rdy (setL l i true) j o = true := by
  unfold rdy at h ⊢
  rw [getL_setL_ne hne]
  split at h
  · cases h
  · exact edgesOk_mono h

/-- what is ready waits for nothing that is not listed -/
theorem onI_rdy {l : List Bool} {i : Nat} (hi : getL l i true = false) : ∀ {es : List Edge}, edgesOk l es = true → onI i es = false
  | [], _ => rfl
  | e :: r, h => by
    simp only [edgesOk] at h
    split at h
    · rename_i he
      have ih := onI_rdy hi h
      unfold onI
      split
      · exact ih
      · exact ih
      · rename_i h1 h2
        split
        · rename_i hb
          have hb := Nat.eq_of_beq_eq_true hb
          have : getL l e.on false = true := by
            unfold edgeOk at he
            split at he
            · rename_i d hd; exact absurd hd (h1 d)
            · rename_i d hd; exact absurd hd (h2 d)
            · exact he
          rw [hb] at this
          simp only [getL_eq, List.getD_eq_getElem?_getD] at this hi
          cases hq : l[i]? <;> simp_all
        · exact ih
    · cases h

theorem onDep_rdy {l dep : List Bool} {i : Nat} (hi : getL l i true = false) (hd : ∀ z, getL dep z false = true → getL l z false = false) : ∀ {es : List Edge}, edgesOk l es = true → onDep dep i es = false
  | [], _ => rfl
  | e :: r, h => by
    simp only [edgesOk] at h
    split at h
    · rename_i he
      have ih := onDep_rdy hi hd h
      unfold onDep
      split
      · exact ih
      · exact ih
      · rename_i h1 h2
        have hl : getL l e.on false = true := by
          unfold edgeOk at he
          split at he
          · rename_i d hd; exact absurd hd (h1 d)
          · rename_i d hd; exact absurd hd (h2 d)
          · exact he
        split
        · rename_i hb
          have hb := Nat.eq_of_beq_eq_true hb
          rw [hb] at hl
          simp only [getL_eq, List.getD_eq_getElem?_getD] at hl hi
          cases hq : l[i]? <;> simp_all
        · split
          · rename_i hz
            rw [hd _ hz] at hl
            cases hl
          · exact ih
    · cases h

section
variable {P : Unit → Program} {T : Unit → Tab} {all : List Oper}

/-- operation o gives v, now and while no one else changes what it reads -/
def Gives (P : Unit → Program) (T : Unit → Tab) (all : List Oper) (o : Oper) (v : A) (tm : List A) (hp : AHeap) : Prop :=
  (∀ K', K' v hp → wopG P T all o tm hp K') ∧ (cls (T ()) o.op = 1 → ∀ hp' K', K' v hp' → wopG P T all o tm hp' K')

theorem apartB_spec {x y : Oper} (h : apartB all x y = true) : readsNot all y x.dst ∧ (∀ d, x.dst = some d → y.dst ≠ some d) ∧ readsNot all x y.dst := by
  unfold apartB at h
  rw [Bool.and_eq_true] at h
  refine ⟨fun d hd => ?_, fun d hd => ?_, fun d hd => ?_⟩
  · have h := h.1
    rw [hd] at h
    dsimp only at h
    split at h
    · cases h
    · assumption
  · have h := h.1
    rw [hd] at h
    dsimp only at h
    split at h
    · cases h
    · intro e
      rw [e] at h
      simp [isD] at h
  · have h := h.2
    rw [hd] at h
    simpa using h

theorem Gives.put {o : Oper} {v : A} {tm : List A} {hp hp' : AHeap} (h : Gives P T all o v tm hp) {x : Option Nat} {u : A} (hr : readsNot all o x) (hh : cls (T ()) o.op = 1 ∨ hp' = hp) : Gives P T all o v (put tm x u) hp' := by
  refine ⟨fun K' hk => ?_, fun hc hp'' K' hk => ?_⟩
  · rw [wopG_put hr]
    rcases hh with hc | rfl
    · exact h.2 hc _ _ hk
    · exact h.1 _ hk
  · rw [wopG_put hr]
    exact h.2 hc _ _ hk

theorem wany_first (he : ∀ t e xs ys Q Q', (T ()).eq t = some e → (∀ a, Q a → Q' a) → e xs ys Q → e xs ys Q') {i : Nat} {oi : Oper} {v : A} (hi : all[i]? = some oi) {K : St → Prop} :
    ∀ (f : Nat) (listed : List Bool) (tm : List A) (hp : AHeap),
      (∀ j y, all[j]? = some y → j ≠ i → getL listed j true = false → onI i y.after.toList = false → apartB all oi y = true ∧ (cls (T ()) oi.op = 1 ∨ cls (T ()) y.op ≠ 0)) →
      rdy listed i oi = true → Gives P T all oi v tm hp →
      wany P T all f (setL listed i true) ⟨put tm oi.dst v, hp⟩ K → wany P T all (f + 1) listed ⟨tm, hp⟩ K := by
  intro f
  induction f with
  | zero =>
    intro listed tm hp _ hr hg H
    refine ⟨fun h => (by rw [h i oi hi] at hr; cases hr), fun j o hj hrj => ?_⟩
    by_cases hji : j = i
    · subst hji
      rw [hi] at hj; cases hj
      exact hg.1 _ H
    · have := H.1 j o hj
      rw [rdy_mono hrj (Ne.symm hji)] at this
      cases this
  | succ f ih =>
    intro listed tm hp hfree hr hg H
    refine ⟨fun h => (by rw [h i oi hi] at hr; cases hr), fun j oj hj hrj => ?_⟩
    by_cases hji : j = i
    · subst hji
      rw [hi] at hj; cases hj
      exact hg.1 _ H
    · have h1 := H.2 j oj hj (rdy_mono hrj (Ne.symm hji))
      dsimp only at h1 ⊢
      have hli : getL listed i true = false := by
        unfold rdy at hr
        split at hr
        · cases hr
        · assumption
      have hlj : getL listed j true = false := by
        unfold rdy at hrj
        split at hrj
        · cases hrj
        · assumption
      have hon : onI i oj.after.toList = false := onI_rdy hli (by
        unfold rdy at hrj
        rw [hlj] at hrj
        exact hrj)
      obtain ⟨hap, hcl⟩ := hfree j oj hj hji hlj hon
      obtain ⟨a1, a2, a3⟩ := apartB_spec hap
      rw [wopG_put a1] at h1
      have step : ∀ r hp', (cls (T ()) oi.op = 1 ∨ hp' = hp) → wany P T all f (setL (setL listed i true) j true) ⟨put (put tm oi.dst v) oj.dst r, hp'⟩ K → wany P T all (f + 1) (setL listed j true) ⟨put tm oj.dst r, hp'⟩ K := by
        intro r hp' hh h3
        refine ih (setL listed j true) (put tm oj.dst r) hp' ?_ (rdy_mono hr hji) (hg.put a3 hh) ?_
        · intro k y hk hki hun hno
          refine hfree k y hk hki ?_ hno
          by_cases hjk : j = k
          · subst hjk; exact hlj
          · rw [getL_setL_ne hjk] at hun; exact hun
        · rw [← put_put a2]
          have : setL (setL listed j true) i true = setL (setL listed i true) j true := by
            simp only [setL_eq]
            exact List.set_comm _ _ hji
          rw [this]
          exact h3
      rcases hcl with hcl | hcl
      · exact wopG_mono he (fun r hp' h => step r hp' (.inl hcl) h) h1
      · obtain ⟨u, h2, h3, -⟩ := one_wopG hcl h1
        exact h3 _ (step u hp (.inr rfl) h2)

theorem wany_first2 {dep : List Bool} (he : ∀ t e xs ys Q Q', (T ()).eq t = some e → (∀ a, Q a → Q' a) → e xs ys Q → e xs ys Q') {i : Nat} {oi : Oper} {v : A} (hi : all[i]? = some oi) {K : St → Prop} :
    ∀ (f : Nat) (listed : List Bool) (tm : List A) (hp : AHeap),
      (∀ j y, all[j]? = some y → getL dep j false = true → onDep dep i y.after.toList = true) → (∀ z, getL dep z false = true → getL listed z false = false) →
      (∀ j y, all[j]? = some y → j ≠ i → getL listed j true = false → getL dep j false = false → apartB all oi y = true ∧ (cls (T ()) oi.op = 1 ∨ cls (T ()) y.op ≠ 0)) →
      rdy listed i oi = true → Gives P T all oi v tm hp →
      wany P T all f (setL listed i true) ⟨put tm oi.dst v, hp⟩ K → wany P T all (f + 1) listed ⟨tm, hp⟩ K := by
  intro f
  induction f with
  | zero =>
    intro listed tm hp _ _ _ hr hg H
    refine ⟨fun h => (by rw [h i oi hi] at hr; cases hr), fun j o hj hrj => ?_⟩
    by_cases hji : j = i
    · subst hji
      rw [hi] at hj; cases hj
      exact hg.1 _ H
    · have := H.1 j o hj
      rw [rdy_mono hrj (Ne.symm hji)] at this
      cases this
  | succ f ih =>
    intro listed tm hp hdep hnd hfree hr hg H
    refine ⟨fun h => (by rw [h i oi hi] at hr; cases hr), fun j oj hj hrj => ?_⟩
    by_cases hji : j = i
    · subst hji
      rw [hi] at hj; cases hj
      exact hg.1 _ H
    · have h1 := H.2 j oj hj (rdy_mono hrj (Ne.symm hji))
      dsimp only at h1 ⊢
      have hli : getL listed i true = false := by
        unfold rdy at hr
        split at hr
        · cases hr
        · assumption
      have hlj : getL listed j true = false := by
        unfold rdy at hrj
        split at hrj
        · cases hrj
        · assumption
      have hon : onDep dep i oj.after.toList = false := onDep_rdy hli hnd (by
        unfold rdy at hrj
        rw [hlj] at hrj
        exact hrj)
      have hon : getL dep j false = false := by
        cases hdj : getL dep j false with
        | false => rfl
        | true => rw [hdep j oj hj hdj] at hon; cases hon
      obtain ⟨hap, hcl⟩ := hfree j oj hj hji hlj hon
      obtain ⟨a1, a2, a3⟩ := apartB_spec hap
      rw [wopG_put a1] at h1
      have step : ∀ r hp', (cls (T ()) oi.op = 1 ∨ hp' = hp) → wany P T all f (setL (setL listed i true) j true) ⟨put (put tm oi.dst v) oj.dst r, hp'⟩ K → wany P T all (f + 1) (setL listed j true) ⟨put tm oj.dst r, hp'⟩ K := by
        intro r hp' hh h3
        refine ih (setL listed j true) (put tm oj.dst r) hp' hdep (fun z hz => by
          have hjz : j ≠ z := fun e => by rw [← e, hon] at hz; cases hz
          rw [getL_setL_ne hjz]
          exact hnd z hz) ?_ (rdy_mono hr hji) (hg.put a3 hh) ?_
        · intro k y hk hki hun hno
          refine hfree k y hk hki ?_ hno
          by_cases hjk : j = k
          · subst hjk; exact hlj
          · rw [getL_setL_ne hjk] at hun; exact hun
        · rw [← put_put a2]
          have : setL (setL listed j true) i true = setL (setL listed i true) j true := by
            simp only [setL_eq]
            exact List.set_comm _ _ hji
          rw [this]
          exact h3
      rcases hcl with hcl | hcl
      · exact wopG_mono he (fun r hp' h => step r hp' (.inl hcl) h) h1
      · obtain ⟨u, h2, h3, -⟩ := one_wopG hcl h1
        exact h3 _ (step u hp (.inr rfl) h2)

/-- operation o gives v, whatever the heap holds -/
def GivesA (P : Unit → Program) (T : Unit → Tab) (all : List Oper) (o : Oper) (v : A) (tm : List A) : Prop := ∀ hp' K', K' v hp' → wopG P T all o tm hp' K'
theorem GivesA.put {o : Oper} {v : A} {tm : List A} (h : GivesA P T all o v tm) {x : Option Nat} {u : A} (hr : readsNot all o x) : GivesA P T all o v (put tm x u) := fun hp' K' hk => by
  rw [wopG_put hr]
  exact h _ _ hk
theorem one_slice {T : Tab} {t : Nat} {d : D} {lo hi : Option A} {hp : AHeap} {Q : A → AHeap → Prop} (h : wslice T t (.d d) lo hi hp Q) : ∃ v, Q v hp ∧ ∀ hp' Q', Q' v hp' → wslice T t (.d d) lo hi hp' Q' := by
  unfold wslice at h ⊢
  split at h
  · cases d with
    | str s =>
      dsimp only at h ⊢
      split at h
      · split at h
        · exact ⟨_, h.2.2, fun hp' Q' hq => ⟨h.1, h.2.1, hq⟩⟩
        · exact ⟨_, h.2.2.2, fun hp' Q' hq => ⟨h.1, h.2.1, h.2.2.1, hq⟩⟩
        · exact h.elim
      · exact h.elim
    | sl n sz get =>
      dsimp only at h ⊢
      split at h
      · obtain ⟨h0, h⟩ := h
        split at h
        · exact ⟨_, h.2.2, fun hp' Q' hq => ⟨h0, h.1, h.2.1, hq⟩⟩
        · exact ⟨_, h.2.2.2, fun hp' Q' hq => ⟨h0, h.1, h.2.1, h.2.2.1, hq⟩⟩
        · exact h.elim
      · exact h.elim
    | _ => exact h.elim
  · cases d with
    | str s =>
      dsimp only at h ⊢
      split at h
      · split at h
        · exact ⟨_, h.2.2, fun hp' Q' hq => ⟨h.1, h.2.1, hq⟩⟩
        · exact ⟨_, h.2.2.2, fun hp' Q' hq => ⟨h.1, h.2.1, h.2.2.1, hq⟩⟩
        · exact h.elim
      · exact h.elim
    | sl n sz get =>
      dsimp only at h ⊢
      split at h
      · obtain ⟨h0, h⟩ := h
        split at h
        · exact ⟨_, h.2.2, fun hp' Q' hq => ⟨h0, h.1, h.2.1, hq⟩⟩
        · exact ⟨_, h.2.2.2, fun hp' Q' hq => ⟨h0, h.1, h.2.1, h.2.2.1, hq⟩⟩
        · exact h.elim
      · exact h.elim
    | _ => exact h.elim
  · exact h.elim
theorem one_load {T : Tab} {t : Nat} {g : Nat → Nat → D} {i j sz : Nat} {hp : AHeap} {Q : A → Prop} (h : wload T t (.iptr g i j sz) hp Q) : ∃ v, Q v ∧ ∀ hp' Q', Q' v → wload T t (.iptr g i j sz) hp' Q' := by
  unfold wload at h
  simp only [wload]
  split at h
  · exact h.elim
  · exact ⟨_, h.2.2, fun hp' Q' hq => ⟨h.1, h.2.1, hq⟩⟩
theorem one_index {T : Tab} {t : Nat} {d : D} {i : A} {hp : AHeap} {Q : A → Prop} (h : windexAddr T t (.d d) i hp Q) : ∃ v, Q v ∧ ∀ hp' Q', Q' v → windexAddr T t (.d d) i hp' Q' := by
  unfold windexAddr at h
  simp only [windexAddr]
  split at h
  · split at h
    · cases d with
      | sl len sz get => exact ⟨_, h.2.2.2, fun hp' Q' hq => ⟨h.1, h.2.1, h.2.2.1, hq⟩⟩
      | _ => exact h.elim
    · exact h.elim
  · split at h
    · split at h
      · exact h.elim
      · exact h.elim
    · exact h.elim
  · exact h.elim
theorem isDd_eq {a : A} (h : isDd a = true) : ∃ d, a = .d d := by
  cases a <;> first | exact ⟨_, rfl⟩ | cases h
theorem isIp_eq {a : A} (h : isIp a = true) : ∃ g i j sz, a = .iptr g i j sz := by
  cases a <;> first | exact ⟨_, _, _, _, rfl⟩ | cases h
theorem one_sl {o : Oper} {tm : List A} {hp : AHeap} {K : A → AHeap → Prop} (hs : slOk tm o = true) (h : wopG P T all o tm hp K) : ∃ v, K v hp ∧ GivesA P T all o v tm := by
  have hR : ∀ {hp K}, wopR P T o tm hp K → ∃ v, K v hp ∧ ∀ hp' K', K' v hp' → wopR P T o tm hp' K' := fun {hp K} h => by
    obtain ⟨dst, op, type, pos, after, guard⟩ := o
    unfold slOk at hs
    split at hs
    · rename_i t x lo hi heq
      dsimp only at heq
      subst heq
      simp only [wopR, wprim] at h ⊢
      obtain ⟨d, hd⟩ := isDd_eq hs
      rw [hd] at h ⊢
      exact one_slice h
    · rename_i t x heq
      dsimp only at heq
      subst heq
      simp only [wopR, wprim] at h ⊢
      obtain ⟨g, i, j, sz, hd⟩ := isIp_eq hs
      rw [hd] at h ⊢
      obtain ⟨v, h1, h2⟩ := one_load h
      exact ⟨v, h1, fun hp' K' hk => h2 hp' _ hk⟩
    · rename_i t x y heq
      dsimp only at heq
      subst heq
      simp only [wopR, wprim] at h ⊢
      obtain ⟨d, hd⟩ := isDd_eq hs
      rw [hd] at h ⊢
      obtain ⟨v, h1, h2⟩ := one_index h
      exact ⟨v, h1, fun hp' K' hk => h2 hp' _ hk⟩
    · cases hs
  unfold GivesA
  unfold wopG at h ⊢
  split at h
  · exact hR h
  · split at h
    · split at h
      · exact hR h
      · exact ⟨_, h, fun _ _ h => h⟩
    · exact ⟨_, h, fun _ _ h => h⟩
    · exact h.elim
theorem wany_first3 {dep : List Bool} (he : ∀ t e xs ys Q Q', (T ()).eq t = some e → (∀ a, Q a → Q' a) → e xs ys Q → e xs ys Q') {i : Nat} {oi : Oper} {v : A} (hi : all[i]? = some oi) {K : St → Prop} :
    ∀ (f : Nat) (listed : List Bool) (tm : List A) (hp : AHeap),
      (∀ j y, all[j]? = some y → getL dep j false = true → onDep dep i y.after.toList = true) → (∀ z, getL dep z false = true → getL listed z false = false) →
      (∀ j y, all[j]? = some y → j ≠ i → getL listed j true = false → getL dep j false = false → apartB all oi y = true) →
      rdy listed i oi = true → GivesA P T all oi v tm →
      wany P T all f (setL listed i true) ⟨put tm oi.dst v, hp⟩ K → wany P T all (f + 1) listed ⟨tm, hp⟩ K := by
  intro f
  induction f with
  | zero =>
    intro listed tm hp _ _ _ hr hg H
    refine ⟨fun h => (by rw [h i oi hi] at hr; cases hr), fun j o hj hrj => ?_⟩
    by_cases hji : j = i
    · subst hji
      rw [hi] at hj; cases hj
      exact hg _ _ H
    · have := H.1 j o hj
      rw [rdy_mono hrj (Ne.symm hji)] at this
      cases this
  | succ f ih =>
    intro listed tm hp hdep hnd hfree hr hg H
    refine ⟨fun h => (by rw [h i oi hi] at hr; cases hr), fun j oj hj hrj => ?_⟩
    by_cases hji : j = i
    · subst hji
      rw [hi] at hj; cases hj
      exact hg _ _ H
    · have h1 := H.2 j oj hj (rdy_mono hrj (Ne.symm hji))
      dsimp only at h1 ⊢
      have hli : getL listed i true = false := by
        unfold rdy at hr
        split at hr
        · cases hr
        · assumption
      have hlj : getL listed j true = false := by
        unfold rdy at hrj
        split at hrj
        · cases hrj
        · assumption
      have hon : onDep dep i oj.after.toList = false := onDep_rdy hli hnd (by
        unfold rdy at hrj
        rw [hlj] at hrj
        exact hrj)
      have hon : getL dep j false = false := by
        cases hdj : getL dep j false with
        | false => rfl
        | true => rw [hdep j oj hj hdj] at hon; cases hon
      have hap := hfree j oj hj hji hlj hon
      obtain ⟨a1, a2, a3⟩ := apartB_spec hap
      rw [wopG_put a1] at h1
      have step : ∀ r hp', wany P T all f (setL (setL listed i true) j true) ⟨put (put tm oi.dst v) oj.dst r, hp'⟩ K → wany P T all (f + 1) (setL listed j true) ⟨put tm oj.dst r, hp'⟩ K := by
        intro r hp' h3
        refine ih (setL listed j true) (put tm oj.dst r) hp' hdep (fun z hz => by
          have hjz : j ≠ z := fun e => by rw [← e, hon] at hz; cases hz
          rw [getL_setL_ne hjz]
          exact hnd z hz) ?_ (rdy_mono hr hji) (hg.put a3) ?_
        · intro k y hk hki hun hno
          refine hfree k y hk hki ?_ hno
          by_cases hjk : j = k
          · subst hjk; exact hlj
          · rw [getL_setL_ne hjk] at hun; exact hun
        · rw [← put_put a2]
          have : setL (setL listed j true) i true = setL (setL listed i true) j true := by
            simp only [setL_eq]
            exact List.set_comm _ _ hji
          rw [this]
          exact h3
      exact wopG_mono he (fun r hp' h => step r hp' h) h1

theorem wany_of_draw (he : ∀ t e xs ys Q Q', (T ()).eq t = some e → (∀ a, Q a → Q' a) → e xs ys Q → e xs ys Q') {K : St → Prop} : ∀ (f : Nat) (listed : List Bool) (σ : St), wdraw P T all f listed σ K → wany P T all f listed σ K
  | 0, listed, σ, h => by
    unfold wdraw at h
    split at h
    · rename_i hn
      exact ⟨fun i o ho => by simpa using findI_none hn i o ho, h⟩
    · exact h.elim
  | f + 1, listed, σ, h => by
    unfold wdraw at h
    split at h
    · rename_i i o hf
      obtain ⟨-, h1, h2⟩ := findI_some hf
      rw [Nat.sub_zero] at h1
      unfold quiet at h2
      split at h2
      · cases h2
      · rename_i hr
        split at h2
        · cases h2
        · rename_i hc
          have hc : cls (T ()) o.op ≠ 0 := fun e => by rw [e] at hc; cases hc
          obtain ⟨v, k1, k2, k3⟩ := one_wopG hc h
          refine wany_first he h1 f listed σ.tm σ.hp ?_ hr ⟨k2, k3⟩ (wany_of_draw he f _ _ k1)
          intro j y hj hne hun hon
          exact freeB_spec h2 j y hj (by simpa using hne) (by simpa using hun) hon
    · split at h
      · rename_i i o hf
        obtain ⟨-, h1, h2⟩ := findI_some hf
        rw [Nat.sub_zero] at h1
        unfold quiet2 at h2
        split at h2
        · cases h2
        · rename_i hr
          split at h2
          · cases h2
          · rename_i hc
            split at h2
            · cases h2
            · rename_i hdf
              have hc : cls (T ()) o.op ≠ 0 := fun e => by rw [e] at hc; cases hc
              obtain ⟨v, k1, k2, k3⟩ := one_wopG hc h
              refine wany_first2 (dep := depsL i [] all) he h1 f listed σ.tm σ.hp ?_ (depFree_spec hdf) ?_ hr ⟨k2, k3⟩ (wany_of_draw he f _ _ k1)
              · intro j y hj hd
                exact depsL_spec i all [] j y hj (by simpa using hd)
              · intro j y hj hne hun hon
                exact freeD_spec h2 j y hj (by simpa using hne) (by simpa using hun) (by simpa using hon)
      · split at h
        · rename_i i o hf
          obtain ⟨-, h1, h2⟩ := findI_some hf
          rw [Nat.sub_zero] at h1
          unfold quiet3 at h2
          split at h2
          · cases h2
          · rename_i hr
            split at h2
            · cases h2
            · rename_i hs
              split at h2
              · cases h2
              · rename_i hdf
                obtain ⟨v, k1, k2⟩ := one_sl hs h
                refine wany_first3 (dep := depsL i [] all) he h1 f listed σ.tm σ.hp ?_ (depFree_spec hdf) ?_ hr k2 (wany_of_draw he f _ _ k1)
                · intro j y hj hd
                  exact depsL_spec i all [] j y hj (by simpa using hd)
                · intro j y hj hne hun hon
                  exact freeA_spec h2 j y hj (by simpa using hne) (by simpa using hun) (by simpa using hon)
        · split at h
          · rename_i hn
            refine ⟨fun _ => h, fun i o ho hr => ?_⟩
            have := findI_none hn i o ho
            rw [Nat.zero_add, hr] at this
            cases this
          · rename_i io hs
            obtain ⟨i, o⟩ := io
            obtain ⟨-, h1, h2⟩ := findI_some hs
            refine ⟨fun hno => ?_, fun j y hj hr => ?_⟩
            · rw [hno i o (by simpa using h1)] at h2; cases h2
            · have := eachI_all h j y hj (by simpa using hr)
              rw [Nat.zero_add] at this
              exact wopG_mono he (fun r hp h => wany_of_draw he f _ _ h) this
end
end Go.VM
