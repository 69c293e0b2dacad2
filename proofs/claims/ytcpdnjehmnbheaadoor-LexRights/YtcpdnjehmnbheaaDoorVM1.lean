/- All operations that call no function of the program, together. -/
import Derived.Test.YtcpdnjehmnbheaaDoorVL
set_option linter.unusedSimpArgs false
set_option linter.unusedVariables false
set_option linter.unusedSectionVars false
namespace Go.VM
open Ops
variable [Ops] [Glb] [Lim]
open Go.RowKit (Below)

variable {P : Program} {T : Tab} {B : Nat} {ι : Nat → Option Nat} {I : Nat → Nat → Prop} {w : World} {H : AHeap}

theorem wnext_ok {x : A} {vx : Value} {Q : A → AHeap → Prop} (r : Rel B ι I w H) (hx : RepA w I ι H vx x) (h : wnext x H Q) (ty : TypeId) :
    StepsV P B (Instr.next vx true ty) w I ι H Q := by
  unfold wnext at h
  split at h
  · rename_i o
    simp only [getL_eq] at h
    split at h
    · rename_i s pos hob
      obtain ⟨h1, h2⟩ := h
      simp only [Imp_eq] at h1 h2
      have hob := getD_obj hob (by simp)
      cases hx with | itr _ _ ho hq hv =>
      obtain ⟨b, e1, rfl⟩ := hq s pos hob
      obtain ⟨b', e1', e2, e3⟩ := r.obj o _ hob
      obtain rfl : b = b' := by rw [e1] at e1'; exact Option.some.inj e1'
      by_cases hlt : pos < s.size
      · have hq := h1 (by simp [ltP_eq, nI_eq, lenS_eq, hlt])
        let w' : World := { w with heap := w.heap.setIfInBounds b (.stringIter s (pos + (Utf8.decode s pos).2)) }
        have hot : ∀ c, c ≠ b → w'.heap[c]? = w.heap[c]? := fun c hc => by
          show (w.heap.setIfInBounds b _)[c]? = _
          rw [Array.getElem?_setIfInBounds, if_neg (Ne.symm hc)]
        have hsame : Same I w w' := fun c k hk => by
          by_cases e : c = b
          · subst e
            unfold World.cell?
            have : w'.heap[c]? = some (.stringIter s (pos + (Utf8.decode s pos).2)) := by
              show (w.heap.setIfInBounds c _)[c]? = _
              rw [Array.getElem?_setIfInBounds]
              simp [lt_of_heap e3]
            rw [this, e3]
          · unfold World.cell?; rw [hot c e]
        have hgr : Grow w w' := fun c vs el fr hc => by
          by_cases e : c = b
          · subst e; rw [e3] at hc; cases hc
          · exact ⟨vs, el, fr, (hot c e).trans hc, rfl⟩
        have g : Goes w w' I I ι ι H (H.set o (.iter s (addN pos (width s pos)))) := Goes.set hsame (fun _ _ h => h) hgr hob trivial
        rw [setL_eq] at hq
        refine ⟨.tuple #[.bool true, goInt pos, .int .i32 (Utf8.decode s pos).1], _, w', I, ι, _, ?_, hq, ?_, ?_, g, ?_⟩
        · simp [Instr.next, getObj, Sem.run, e3, hlt, setObj, w']
        · refine .tup [.bool true, goInt pos, .int .i32 (Utf8.decode s pos).1] _ rfl (fun k hk => ?_)
          have hk : k < 3 := hk
          match k, hk with
          | 0, _ => exact .d _ _ (.bool _)
          | 1, _ => exact .d _ _ (by simp only [nI_eq]; exact .int _ _)
          | 2, _ => exact .d _ _ (by simp only [rune_eq]; exact .int _ _)
        · refine r.upd hob (by show _ ≤ (w.heap.setIfInBounds b _).size; simp) g (fun _ _ => rfl) (fun o' y c hne hy hl hc => ⟨hot c (r.ne hob hy trivial hl e1 hc hne), fun k hk => hk⟩) (fun c k hk => by show _ < (w.heap.setIfInBounds b _).size; simpa using r.imm c k hk) ?_
            (fun o' y c hne hy hl hc e => r.ne hob hy trivial hl e1 hc hne (by rw [e1] at e; exact (Option.some.inj e).symm))
          refine ⟨b, e1, e2, ?_⟩
          show (w.heap.setIfInBounds b _)[b]? = _
          rw [Array.getElem?_setIfInBounds]
          simp [lt_of_heap e3, addN_eq, width_eq]
        · exact ⟨rfl, rfl, rfl, by show _ ≤ (w.heap.setIfInBounds b _).size; simp, fun k hk => hot k (by omega)⟩
      · have hq := h2 (by simp only [leP_eq, nI_eq, lenS_eq]; omega)
        refine .pure r (v := .tuple #[.bool false]) ?_ (.tup [.bool false] _ rfl (fun k hk => ?_)) hq
        · simp [Instr.next, getObj, Sem.run, e3, hlt]
        · have hk : k < 1 := hk
          match k, hk with
          | 0, _ => exact .d _ _ (.bool _)
    · exact h.elim
  · exact h.elim

theorem wrange_ok (hT : TabOk P T) {t : Nat} {s : ByteArray} {ti : TI} {v : Value} (hti : T.ti t = some ti) (hk : ti.kind = .string) {Q : A → AHeap → Prop} (r : Rel B ι I w H) (hv : RepA w I ι H v (.d (.str s))) (h : Q (.itr (lenL H)) (H ++ [.iter s 0])) :
    StepsV P B (Instr.range t v) w I ι H Q := by
  obtain ⟨d, hd, hu⟩ := (hT.ti _ _ hti).underlying
  rw [hk] at hd
  obtain rfl := kindOf_string hd
  obtain rfl := rep_str hv
  rw [lenL_eq] at h
  have hb := fun b (h : b < w.heap.size) => heap_alloc_eq w (.stringIter s 0) b h
  have g := Goes.new hb r.imm ι H (.iter s 0) (some w.heap.size)
  refine ⟨.pointer (some ⟨w.heap.size, 0, none⟩), _, w.alloc (.stringIter s 0), I, _, _, by simp [Instr.range, hu], h, ?_, ?_, g, (Below.refl B w).alloc r.base _⟩
  · exact .itr _ _ (by simp) (fun s' p hh => ⟨w.heap.size, by simp [updι], rfl⟩) ⟨_, rfl⟩
  · refine r.new (by show _ ≤ (w.heap.push _).size; simp) hb _ _ (fun b' e => by cases e; exact Nat.le_refl _) ?_
    exact ⟨w.heap.size, by simp [updι], r.base, heap_alloc_new _ _⟩

/-- what an operation leaves in its slot -/
def Next.val : Next → Option Value
  | .value v => some v
  | .skip => some undef
  | _ => none

def StepsN (P : Program) (B : Nat) (s : Sem Next) (w : World) (I : Nat → Nat → Prop) (ι : Nat → Option Nat) (H : AHeap) (Q : A → AHeap → Prop) : Prop :=
  ∃ nx v r w' I' ι' H', s.run P w = .ok nx w' ∧ (nx = .value v ∨ (nx = .skip ∧ v = undef)) ∧ Q r H' ∧ RepA w' I' ι' H' v r ∧ Rel B ι' I' w' H' ∧ Goes w w' I I' ι ι' H H' ∧ Below B w w'

theorem StepsV.next {s : Sem Value} {Q : A → AHeap → Prop} (h : StepsV P B s w I ι H Q) {s' : Sem Next} (e : ∀ v w', s.run P w = .ok v w' → s'.run P w = .ok (.value v) w') : StepsN P B s' w I ι H Q := by
  obtain ⟨v, r, w', I', ι', H', h1, h2⟩ := h
  exact ⟨.value v, v, r, w', I', ι', H', e v w' h1, .inl rfl, h2⟩

theorem StepsV.at {s : Sem Value} {Q : A → Prop} {Q' : A → AHeap → Prop} (h : StepsV P B s w I ι H (fun a H' => Q a ∧ H' = H)) (e : ∀ a, Q a → Q' a H) : StepsV P B s w I ι H Q' := by
  obtain ⟨v, r, w', I', ι', H', h1, ⟨h2, h3⟩, h4⟩ := h
  subst h3
  exact ⟨v, r, w', I', ι', _, h1, e _ h2, h4⟩

theorem list_rep {a : Act} {tm : List A} (hT : RepT w I ι H a tm) (xs : Array Operand) :
    (xs.map a.eval).toList.length = (xs.toList.map (ev tm)).length ∧ ∀ k, k < (xs.toList.map (ev tm)).length → RepA w I ι H ((xs.map a.eval).toList.getD k undef) ((xs.toList.map (ev tm)).getD k .undef) := by
  refine ⟨by simp, fun k hk => ?_⟩
  have hk' : k < xs.size := by simpa using hk
  simp only [Array.toList_map, List.getD_eq_getElem?_getD, List.getElem?_map, Array.getElem?_toList, Array.getElem?_eq_getElem hk', Option.map_some, Option.getD_some]
  exact ev_rep hT _

theorem wprim_ok (hT : TabOk P T) {o : Oper} {a : Act} {tm : List A} {Q : A → AHeap → Prop} (r : Rel B ι I w H) (ha : RepT w I ι H a tm) (h : wprim T o tm H Q) : StepsN P B (execOp a.eval o) w I ι H Q := by
  unfold wprim at h
  split at h
  · rename_i x ho
    exact StepsV.next (StepsV.pure (P := P) (s := pure (a.eval x)) r rfl (ev_rep ha x) h) (fun v w' e => by cases e; simp [execOp, ho])
  · rename_i x ho
    exact StepsV.next (StepsV.pure (P := P) (s := pure (a.eval x)) r rfl (ev_rep ha x) h) (fun v w' e => by cases e; simp [execOp, ho])
  · rename_i c x y ho
    have hc := ev_rep ha c
    split at h
    · rename_i t ht
      rw [ht] at hc
      have hv := rep_bool hc
      cases t with
      | true => exact StepsV.next (StepsV.pure (P := P) (s := pure (a.eval x)) r rfl (ev_rep ha x) h) (fun v w' e => by cases e; simp [execOp, ho, hv, asBool])
      | false => exact StepsV.next (StepsV.pure (P := P) (s := pure (a.eval y)) r rfl (ev_rep ha y) h) (fun v w' e => by cases e; simp [execOp, ho, hv, asBool])
    · exact h.elim
  · rename_i e ho
    split at h
    · rename_i ti hti
      exact StepsV.next (walloc_ok hT hti r h) (fun v w' e => by simp [execOp, ho, e])
    · exact h.elim
  · rename_i t x ho
    exact StepsV.next (wbox_ok (t := t) r (ev_rep ha x) h.1 h.2) (fun v w' e => by simp [execOp, ho, e])
  · rename_i t parts ho
    obtain ⟨h1, h2⟩ := parts_rep ha parts
    exact StepsV.next ((wbuild_ok hT r h1 h2 h).at (fun _ h => h)) (fun v w' e => by simp [execOp, ho, e])
  · rename_i t len parts ho
    obtain ⟨h1, h2⟩ := parts_rep ha parts
    exact StepsV.next (wbuildSlice_ok hT r h1 h2 h) (fun v w' e => by simp [execOp, ho, e])
  · rename_i t x ho
    exact StepsV.next ((wload_ok hT r (ev_rep ha x) h).at (fun _ h => h)) (fun v w' e => by simp [execOp, ho, e])
  · rename_i t p x ho
    obtain ⟨w', I', H', h1, h2, h3, h4, h5⟩ := wstore_ok hT r (ev_rep ha p) (ev_rep ha x) h
    exact ⟨.skip, undef, .undef, w', I', ι, H', by simp [execOp, ho, h1], .inr ⟨rfl, rfl⟩, h2, .undef _, h3, h4, h5⟩
  · rename_i x ho
    have hx := ev_rep ha x
    unfold wnil at h
    split at h
    · rename_i o k e
      rw [e] at hx
      generalize hvx : a.eval x = vx at hx
      cases hx with | ptr _ _ _ h1 h2 hv =>
      obtain ⟨p, hp⟩ := hv
      exact StepsV.next (StepsV.pure (P := P) (s := pure vx) r rfl (.ptr _ _ _ h1 h2 ⟨p, hp⟩) h) (fun v w' e => by cases e; simp [execOp, ho, hvx, hp])
    · rename_i o i j l e
      rw [e] at hx
      generalize hvx : a.eval x = vx at hx
      cases hx with | eptr _ _ _ _ _ h1 h2 hv =>
      obtain ⟨p, hp⟩ := hv
      exact StepsV.next (StepsV.pure (P := P) (s := pure vx) r rfl (.eptr _ _ _ _ _ h1 h2 ⟨p, hp⟩) h) (fun v w' e => by cases e; simp [execOp, ho, hvx, hp])
    · rename_i g i j sz e
      rw [e] at hx
      generalize hv : a.eval x = vx at hx
      cases hx with | iptr b o _ _ _ _ vals hc hr =>
      exact StepsV.next (StepsV.pure (P := P) (s := pure (a.eval x)) r rfl (by rw [hv]; exact .iptr b o g i j sz vals hc hr) h) (fun v w' e => by cases e; simp [execOp, ho, hv])
    · rename_i f x1 x2 e
      rw [e] at hx
      generalize hv : a.eval x = vx at hx
      cases hx with | clo _ fv cv _ _ h1 h2 h3 h4 =>
      exact StepsV.next (StepsV.pure (P := P) (s := pure (a.eval x)) r rfl (by rw [hv]; exact .clo f fv cv x1 x2 h1 h2 h3 h4) h) (fun v w' e => by cases e; simp [execOp, ho, hv])
    · exact h.elim
  · rename_i op t x y t2 ho
    exact StepsV.next ((wbin_ok hT r (ev_rep ha x) (ev_rep ha y) x y h).at (fun _ h => h)) (fun v w' e => by
      rw [Sem.run_bind] at e
      cases hg : (eqGuard op t x y (a.eval x) (a.eval y)).run P w with
      | ok u w1 =>
        rw [hg, Result.andThen_ok] at e
        simp [execOp, ho, hg, e]
      | halt h' w1 => rw [hg] at e; cases e)
  · rename_i op t x ho
    exact StepsV.next ((wun_ok r (ev_rep ha x) h).at (fun _ h => h)) (fun v w' e => by simp [execOp, ho, e])
  · rename_i src dst x ho
    exact StepsV.next ((wconv_ok hT r (ev_rep ha x) h).at (fun _ h => h)) (fun v w' e => by simp [execOp, ho, e])
  · rename_i f first caps ho
    obtain ⟨h1, h2⟩ := list_rep ha first
    obtain ⟨h3, h4⟩ := list_rep ha caps
    have hrep := RepA.clo (w := w) (I := I) (ι := ι) (H := H) f _ _ _ _ h1 h3 h2 h4
    rw [Array.toArray_toList, Array.toArray_toList] at hrep
    exact StepsV.next (StepsV.pure (P := P) (s := pure _) r rfl hrep h) (fun v w' e => by cases e; simp [execOp, ho, Instr.makeFunc])
  · rename_i t l c ho
    exact StepsV.next (wmake_ok hT r (ev_rep ha l) (ev_rep ha c) h) (fun v w' e => by simp [execOp, ho, e])
  · rename_i t x lo hi ho
    refine StepsV.next (wslice_ok hT r (ev_rep ha x) (vlo := lo.map a.eval) (vhi := hi.map a.eval) ?_ ?_ h) (fun v w' e => by simp [execOp, ho, e])
    · cases lo with
      | none => exact .none
      | some l => exact .some _ _ (ev_rep ha l)
    · cases hi with
      | none => exact .none
      | some l => exact .some _ _ (ev_rep ha l)
  · rename_i t x f ho
    exact StepsV.next ((wfieldAddr_ok hT r (ev_rep ha x) h).at (fun _ h => h)) (fun v w' e => by simp [execOp, ho, e])
  · rename_i t x f ho
    exact StepsV.next ((wfield_ok hT r (ev_rep ha x) h).at (fun _ h => h)) (fun v w' e => by simp [execOp, ho, e])
  · rename_i t x i ho
    exact StepsV.next ((windexAddr_ok hT r (ev_rep ha x) (ev_rep ha i) h).at (fun _ h => h)) (fun v w' e => by simp [execOp, ho, e])
  · rename_i t x i ho
    exact StepsV.next ((windex_ok hT r (ev_rep ha x) (ev_rep ha i) h).at (fun _ h => h)) (fun v w' e => by simp [execOp, ho, e])
  · rename_i t x ho
    have hx := ev_rep ha x
    split at h
    · rename_i s e1
      rw [e1] at hx
      split at h
      · rename_i hti
        exact StepsV.next (wrange_ok hT hti rfl r hx h) (fun v w' e => by simp [execOp, ho, e])
      · exact h.elim
    · exact h.elim
  · rename_i it ho
    exact StepsV.next (wnext_ok r (ev_rep ha it) h o.type) (fun v w' e => by simp [execOp, ho, e])
  · rename_i t i ho
    have hx := ev_rep ha t
    split at h
    · rename_i ps e1
      rw [e1] at hx
      obtain ⟨h1, h2⟩ := h
      simp only [Nat.blt_eq, lenL_eq] at h1
      rw [getL_eq] at h2
      obtain ⟨vs, hv, l1, l2⟩ := rep_tup hx
      have hlt : i < vs.length := by omega
      exact StepsV.next (StepsV.pure (P := P) (s := pure (vs.getD i undef)) r rfl (l2 i h1) h2) (fun v w' e => by cases e; simp [execOp, ho, hv, Instr.extract, List.getElem?_eq_getElem hlt, List.getD_eq_getElem?_getD])
    · exact h.elim
  · rename_i c ho
    split at h
    · rename_i hc
      split at h
      rotate_left
      · exact h.elim
      rename_i x t hargs hty
      refine StepsV.next ((wlen_ok hT r (ev_rep ha x) h o.type c.argTypes (by rw [hty]; rfl) (c.args.map a.eval) (by rw [hargs]; simp)).at (fun _ h => h)) (fun v w' e => by
        simp [execOp, ho, resolve, hc, invoke, builtin, e])
    · rename_i hc
      split at h
      rotate_left
      · exact h.elim
      rename_i x y hargs
      have := (max_ok r (ev_rep ha x) (ev_rep ha y) h c.argTypes o.type (P := P)).at (Q' := Q) (fun _ h => h)
      refine StepsV.next this (fun v w' e => by
        simp [execOp, ho, resolve, hc, invoke, builtin, hargs, e])
    · rename_i hc
      split at h
      rotate_left
      · exact h.elim
      rename_i x y hargs
      have := (min_ok r (ev_rep ha x) (ev_rep ha y) h c.argTypes o.type (P := P)).at (Q' := Q) (fun _ h => h)
      refine StepsV.next this (fun v w' e => by
        simp [execOp, ho, resolve, hc, invoke, builtin, hargs, e])
    · rename_i hc
      split at h
      rotate_left
      · exact h.elim
      rename_i x y t t2 hargs hty
      refine StepsV.next (wappend_ok hT r (ev_rep ha x) (ev_rep ha y) h o.type) (fun v w' e => by
        simp [execOp, ho, resolve, hc, invoke, builtin, hargs, hty, e])
    · exact h.elim
  · exact h.elim

end Go.VM
