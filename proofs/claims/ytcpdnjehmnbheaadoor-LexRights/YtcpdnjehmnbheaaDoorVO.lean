/- The weakest precondition of a code, computed; a function's contract out of its body. -/
import Derived.Test.YtcpdnjehmnbheaaDoorVR
set_option linter.unusedSimpArgs false
set_option linter.unusedVariables false
set_option linter.unusedSectionVars false
namespace Go.VM
open Ops
variable [Ops] [Glb] [Lim]
open Go.RowKit (Below)

def wop (P : Unit → Program) (T : Unit → Tab) (o : Oper) (σ : St) (K : St → Prop) : Prop :=
  wopR P T o σ.tm σ.hp (fun r hp => K ⟨put σ.tm o.dst r, hp⟩)

def wops (P : Unit → Program) (T : Unit → Tab) (all : List Oper) : List Oper → St → (St → Prop) → Prop
  | [], σ, K => K σ
  | o :: rest, σ, K => wopG P T all o σ.tm σ.hp (fun r hp => wops P T all rest ⟨put σ.tm o.dst r, hp⟩ K)

inductive LoopVW (P : Unit → Program) (n : Nat) (c : Code) (Q : Ex → St → Prop) (σ : St) : Prop
  | mk (h : ∀ lim : Lim, @VW _ lim (P ()) n (.loop c) Q σ)
theorem LoopVW_eq (P : Unit → Program) (n : Nat) (c : Code) (Q : Ex → St → Prop) (σ : St) : LoopVW P n c Q σ = ∀ lim : Lim, @VW _ lim (P ()) n (.loop c) Q σ := propext ⟨fun ⟨h⟩ => h, .mk⟩
def noneL : List Oper → List Bool
  | [] => []
  | _ :: r => false :: noneL r

/-- THE WEAKEST PRECONDITION. It stops at loops, and at regions that draw their order. -/
def W (P : Unit → Program) (T : Unit → Tab) (n : Nat) : Code → (Ex → St → Prop) → St → Prop
  | .skip, Q, σ => Q .normal σ
  | .region id ops draw, Q, σ => match draw with
    | false => wops P T ops.toList ops.toList σ (Q .normal)
    | true => wdraw P T ops.toList (lenL ops.toList) (noneL ops.toList) σ (Q .normal)
  | .seq a b, Q, σ => W P T n a (seqQ (W P T n b Q) Q) σ
  | .cond c a b, Q, σ => match ev σ.tm c with
    | .d (.bool t) => (match t with
      | true => W P T n a Q σ
      | false => W P T n b Q σ)
    | _ => False
  | .block id b, Q, σ => W P T n b (blockQ id Q) σ
  | .loop b, Q, σ => LoopVW P n b Q σ
  | .exit id, Q, σ => Q (.exit id) σ
  | .ret, Q, σ => Q .ret σ
  | _, _, _ => False

variable {P : Program} {T : Tab} {Pf : Unit → Program} {Tf : Unit → Tab} {n : Nat}

theorem getD_append_list (xs ys : List Value) (k : Nat) (d : Value) : (xs ++ ys).getD k d = if k < xs.length then xs.getD k d else ys.getD (k - xs.length) d := by
  simp only [List.getD_eq_getElem?_getD, List.getElem?_append]
  split <;> rfl

theorem RepL.append {w : World} {I : Nat → Nat → Prop} {ι : Nat → Option Nat} {H : AHeap} {vs vs' : List Value} {xs xs' : List A} (h : RepL w I ι H vs xs) (h' : RepL w I ι H vs' xs') : RepL w I ι H (vs ++ vs') (xs ++ xs') := by
  refine ⟨by simp [h.1, h'.1], fun k hk => ?_⟩
  rw [List.length_append] at hk
  rw [getD_append_list]
  have e : (xs ++ xs').getD k A.undef = if k < xs.length then xs.getD k .undef else xs'.getD (k - xs.length) .undef := by
    simp only [List.getD_eq_getElem?_getD, List.getElem?_append]
    split <;> rfl
  rw [e, h.1]
  split
  · exact h.2 k ‹_›
  · exact h'.2 _ (by omega)

theorem Keep.goes {B : Nat} {w0 w w' : World} {I0 I I' : Nat → Nat → Prop} {ι0 ι ι' : Nat → Option Nat} {H0 H H' : AHeap} (k : Keep B w0 I0 ι0 H0 w I ι H) (g : Goes w w' I I' ι ι' H H') (hb : Below B w w') : Keep B w0 I0 ι0 H0 w' I' ι' H' :=
  ⟨k.below.trans hb, Nat.le_trans k.len g.len, fun v x h => (k.rep v x h).goes g⟩

theorem Keep.trans {B : Nat} {w0 w w' : World} {I0 I I' : Nat → Nat → Prop} {ι0 ι ι' : Nat → Option Nat} {H0 H H' : AHeap} (k : Keep B w0 I0 ι0 H0 w I ι H) (g : Keep B w I ι H w' I' ι' H') : Keep B w0 I0 ι0 H0 w' I' ι' H' :=
  ⟨k.below.trans g.below, Nat.le_trans k.len g.len, fun v x h => g.rep v x (k.rep v x h)⟩

theorem wop_ok (hT : TabOk (Pf ()) (Tf ())) {E : Entry} {ι : Nat → Option Nat} {I : Nat → Nat → Prop} {a : Act} {w : World} {σ : St} {o : Oper} {K : St → Prop} (hi : Inv E ι I a w σ) (h : wop Pf Tf o σ K) (next : Act → World → Prop) (Q : Exit → Act → World → Prop)
    (hn : ∀ ι' I' a' w' σ', K σ' → Inv E ι' I' a' w' σ' → next a' w') : o.wp (Pf ()) a w next Q := by
  unfold Oper.wp
  unfold wop wopR at h
  split at h
  · rename_i f args at_ ho
    split at h
    · rename_i k first caps hf
      obtain ⟨hfn, h⟩ := h
      obtain ⟨fn, e1, e2, e3⟩ := hT.fn k hfn
      have hc := ev_rep hi.tm f
      rw [hf] at hc
      generalize hv : a.eval f = vf at hc
      cases hc with | clo _ fv cv _ _ l1 l2 r1 r2 =>
      obtain ⟨g1, g2⟩ := list_rep hi.tm args
      have hargs : RepL w I ι σ.hp (fv ++ (args.map a.eval).toList ++ cv) (first ++ args.toList.map (ev σ.tm) ++ caps) := RepL.append (RepL.append ⟨l1, r1⟩ ⟨g1, g2⟩) ⟨l2, r2⟩
      rw [CallW_eq] at h
      have hcall := h inferInstance E.B ι I w _ hi.rel hargs
      have hrun : (execOp a.eval o).run (Pf ()) w = .ok (.enter k (fv ++ (args.map a.eval).toList ++ cv).toArray) w := by
        have ha : (fv ++ (args.map a.eval).toList ++ cv).toArray = fv.toArray ++ args.map a.eval ++ cv.toArray := by
          apply Array.ext'
          simp
        rw [ha]
        have e2' : ¬ fn.body = none := fun h => by simp [h] at e2
        have e3' : ¬ fn.name = "runtime.NumGoroutine" := by simpa using e3
        simp [execOp, ho, resolve, hv, Deferred.ofValue, invoke, callFunc, e1, e2', e3']
      rw [hrun, Oper.upon_enter]
      refine hcall.mono ?_
      rintro e w' ⟨v, r, H', ι', I', rfl, hk, hrel, hrep, hkeep⟩
      refine hn ι' I' _ _ _ hk ⟨?_, ?_, hrel, hi.keep.trans hkeep⟩
      · have := hi.defers; cases o.dst <;> simpa [Act.put] using this
      · exact RepT.put ⟨hi.tm.1, fun t ht => hkeep.rep _ _ (hi.tm.2 t ht)⟩ o.dst hrep
    · exact h.elim
  · obtain ⟨nx, v, r, w', I', ι', H', h1, h2, h3, h4, h5, h6, h7⟩ := wprim_ok hT hi.rel hi.tm h
    rw [h1]
    have hfin : next (a.put o.dst v) w' := by
      refine hn ι' I' _ _ _ h3 ⟨?_, ?_, h5, hi.keep.goes h6 h7⟩
      · have := hi.defers; cases o.dst <;> simpa [Act.put] using this
      · exact (hi.tm.goes h6).put o.dst h4
    rcases h2 with rfl | ⟨rfl, rfl⟩
    · exact hfin
    · exact hfin

theorem yieldA_ok {w : World} {I : Nat → Nat → Prop} {ι : Nat → Option Nat} {H : AHeap} {a : Act} {tm : List A} (hi : RepT w I ι H a tm) {ops : Array Oper} {j : Nat} {b : Option Bool} (h : yieldA ops.toList j tm = some b) : yielded ops a.tmps j = b := by
  unfold yieldA at h
  split at h
  · rename_i d hgd
    unfold gdst at hgd
    rw [getL_eq] at hgd
    split at hgd
    · rename_i o ho
      have hd : o.dst = some d := hgd
      have ho' : ops[j]? = some o := by
        rw [List.getD_eq_getElem?_getD, List.getElem?_map] at ho
        cases hq : ops.toList[j]? with
        | none => simp [hq] at ho
        | some o' => simp [hq] at ho; subst ho; simpa using hq
      rw [getL_eq] at h
      have slot : ∀ x, tm.getD d .undef = x → x ≠ .undef → d < a.tmps.size ∧ RepA w I ι H (a.tmps.getD d undef) x := by
        intro x hx hne
        have hlt : d < tm.length := by
          rcases Nat.lt_or_ge d tm.length with h | h
          · exact h
          · rw [List.getD_eq_getElem?_getD, List.getElem?_eq_none h] at hx
            exact absurd hx.symm hne
        have := hi.2 d hlt
        rw [hx] at this
        exact ⟨by rw [hi.1]; exact hlt, this⟩
      split at h
      · rename_i b' hb
        obtain rfl := Option.some.inj h
        obtain ⟨hlt', hr⟩ := slot _ hb (by simp)
        have hv := rep_bool hr
        have hv' : a.tmps[d]? = some (.bool b') := by
          rw [Array.getElem?_eq_getElem hlt']
          simpa [Array.getD_eq_getD_getElem?, Array.getElem?_eq_getElem hlt'] using hv
        simp [yielded, ho', hd, hv']
      · rename_i xs hb
        obtain rfl := Option.some.inj h
        obtain ⟨hlt', hr⟩ := slot _ hb (by simp)
        generalize hv : a.tmps.getD d undef = v at hr
        cases hr with | tup vs _ h1 h2 =>
        have hv' : a.tmps[d]? = some (.tuple vs.toArray) := by
          rw [Array.getElem?_eq_getElem hlt']
          simpa [Array.getD_eq_getD_getElem?, Array.getElem?_eq_getElem hlt'] using hv
        simp [yielded, ho', hd, hv']
      · cases h
    · cases hgd
  · cases h

theorem Bool.same_eq (a b : Bool) : Bool.same a b = (a == b) := by cases a <;> cases b <;> rfl

theorem wopG_ok (hT : TabOk (Pf ()) (Tf ())) {E : Entry} {ι : Nat → Option Nat} {I : Nat → Nat → Prop} {a : Act} {w : World} {σ : St} {ops : Array Oper} {i : Nat} {o : Oper} {K : St → Prop} (hk : ops[i]? = some o) (hi : Inv E ι I a w σ)
    (h : wopG Pf Tf ops.toList o σ.tm σ.hp (fun r hp => K ⟨put σ.tm o.dst r, hp⟩)) (next : Act → World → Prop) (Q : Exit → Act → World → Prop) (hn : ∀ ι' I' a' w' σ', K σ' → Inv E ι' I' a' w' σ' → next a' w') : wpOp (Pf ()) ops Q i next a w := by
  unfold wpOp
  simp only [hk]
  unfold wopG at h
  split at h
  · rename_i hg
    have hw : Region.wanted o (yielded ops a.tmps) = true := by simp [Region.wanted, hg]
    rw [if_pos hw]
    exact .inl (wop_ok hT hi h _ _ hn)
  · rename_i j want hg
    split at h
    · rename_i b hb
      have hy := yieldA_ok hi.tm hb
      by_cases e : b = want
      · rw [show Bool.same b want = true by rw [Bool.same_eq]; simp [e]] at h
        have hw : Region.wanted o (yielded ops a.tmps) = true := by simp [Region.wanted, hg, hy, e]
        rw [if_pos hw]
        exact .inl (wop_ok hT hi h _ _ hn)
      · rw [show Bool.same b want = false by rw [Bool.same_eq]; simpa using e] at h
        have hw : ¬ Region.wanted o (yielded ops a.tmps) = true := by simp [Region.wanted, hg, hy, e]
        rw [if_neg hw]
        refine hn ι I _ _ _ h ⟨?_, hi.tm.put o.dst (.tup [] [] rfl (fun k hk => absurd hk (by simp))), hi.rel, hi.keep⟩
        have := hi.defers; cases o.dst <;> simpa [Act.put] using this
    · rename_i hb
      have hy := yieldA_ok hi.tm hb
      have hw : ¬ Region.wanted o (yielded ops a.tmps) = true := by simp [Region.wanted, hg, hy]
      rw [if_neg hw]
      refine hn ι I _ _ _ h ⟨?_, hi.tm.put o.dst (.tup [] [] rfl (fun k hk => absurd hk (by simp))), hi.rel, hi.keep⟩
      have := hi.defers; cases o.dst <;> simpa [Act.put] using this
    · exact h.elim

theorem wops_ok (hT : TabOk (Pf ()) (Tf ())) {E : Entry} {ops : Array Oper} {Q : Exit → Act → World → Prop} {K : St → Prop} (hK : ∀ ι I a w σ, K σ → Inv E ι I a w σ → Q .normal a w) :
    ∀ (l : List Oper) (k : Nat), ops.toList.drop k = l → ∀ {ι : Nat → Option Nat} {I : Nat → Nat → Prop} {a : Act} {w : World} {σ : St}, Inv E ι I a w σ → wops Pf Tf ops.toList l σ K → wpOps (Pf ()) ops Q (List.range' k l.length) a w
  | [], k, _, ι, I, a, w, σ, hi, h => hK ι I a w σ h hi
  | o :: l, k, hl, ι, I, a, w, σ, hi, h => by
    have hk : ops[k]? = some o := by
      have : (ops.toList.drop k)[0]? = some o := by rw [hl]; rfl
      simpa using this
    have hl' : ops.toList.drop (k + 1) = l := by
      rw [← List.tail_drop, hl]; rfl
    have ih := fun {ι I a w σ} => wops_ok hT hK l (k + 1) hl' (ι := ι) (I := I) (a := a) (w := w) (σ := σ)
    simp only [List.length_cons, List.range'_succ]
    rw [wpOps_cons]
    exact wopG_ok hT hk hi (K := fun σ' => wops Pf Tf ops.toList l σ' K) h _ _ (fun ι' I' a' w' σ' h1 h2 => ih h2 h1)

theorem edgesOk_eq {listed : List Bool} : ∀ (es : List Edge), edgesOk listed es = es.all fun e => !Region.binds .any e || listed.getD e.on false
  | [] => rfl
  | e :: r => by
    have he : edgeOk listed e = (!Region.binds .any e || listed.getD e.on false) := by
      unfold edgeOk Region.binds
      rw [getL_eq]
      split <;> rename_i hg <;> simp [*]
    simp only [edgesOk, List.all_cons, he, edgesOk_eq r]
    cases (!Region.binds .any e || listed.getD e.on false) <;> simp

theorem rdy_mem {ops : Array Oper} {listed : List Bool} {i : Nat} : i ∈ Region.ready .any ops listed.toArray ↔ ∃ o, ops.toList[i]? = some o ∧ rdy listed i o = true := by
  rw [mem_ready]
  constructor
  · rintro ⟨h1, o, h2, h3⟩
    refine ⟨o, by simpa using h2, ?_⟩
    unfold rdy
    rw [getL_eq, show listed.getD i true = false by simpa [Array.getD_eq_getD_getElem?, List.getD_eq_getElem?_getD] using h1]
    simp only [edgesOk_eq, List.all_eq_true, Bool.or_eq_true, Bool.not_eq_true']
    intro e he
    cases hb : Region.binds .any e with
    | false => exact .inl rfl
    | true => exact .inr (by simpa [Array.getD_eq_getD_getElem?, List.getD_eq_getElem?_getD] using h3 e (by simpa using he) hb)
  · rintro ⟨o, h2, h3⟩
    unfold rdy at h3
    rw [getL_eq] at h3
    split at h3
    · cases h3
    · rename_i h1
      refine ⟨by simpa [Array.getD_eq_getD_getElem?, List.getD_eq_getElem?_getD] using h1, o, by simpa using h2, fun e he hb => ?_⟩
      simp only [edgesOk_eq, List.all_eq_true, Bool.or_eq_true, Bool.not_eq_true'] at h3
      have := h3 e (by simpa using he)
      rw [hb] at this
      simpa [Array.getD_eq_getD_getElem?, List.getD_eq_getElem?_getD] using this

theorem wany_ok (hT : TabOk (Pf ()) (Tf ())) {E : Entry} {ops : Array Oper} {Q : Exit → Act → World → Prop} {K : St → Prop} (hK : ∀ ι I a w σ, K σ → Inv E ι I a w σ → Q .normal a w) :
    ∀ (f : Nat) (listed : List Bool) {ι : Nat → Option Nat} {I : Nat → Nat → Prop} {a : Act} {w : World} {σ : St}, Inv E ι I a w σ → wany Pf Tf ops.toList f listed σ K → wpAny (Pf ()) .any ops Q f listed.toArray a w := by
  have none_of : ∀ listed : List Bool, Region.ready .any ops listed.toArray = [] → ∀ i o, ops.toList[i]? = some o → rdy listed i o = false := fun listed h i o ho => by
    cases hr : rdy listed i o with
    | false => rfl
    | true =>
      have := (rdy_mem (listed := listed)).2 ⟨o, ho, hr⟩
      rw [h] at this
      cases this
  intro f
  induction f with
  | zero =>
    intro listed ι I a w σ hi h
    refine ⟨?_, hK _ _ _ _ _ h.2 hi⟩
    apply List.eq_nil_iff_forall_not_mem.2
    intro i hm
    obtain ⟨o, h1, h2⟩ := rdy_mem.1 hm
    rw [h.1 i o h1] at h2
    cases h2
  | succ f ih =>
    intro listed ι I a w σ hi h
    refine ⟨fun hr => hK _ _ _ _ _ (h.1 (none_of listed hr)) hi, fun i hm => ?_⟩
    obtain ⟨o, h1, h2⟩ := rdy_mem.1 hm
    have := h.2 i o h1 h2
    refine wopG_ok hT (by simpa using h1) hi (K := fun σ' => wany Pf Tf ops.toList f (setL listed i true) σ' K) this _ _ (fun ι' I' a' w' σ' h3 h4 => ?_)
    have := ih _ h4 h3
    rw [setL_eq] at this
    simpa using this

theorem Inv.drawn {E : Entry} {ι : Nat → Option Nat} {I : Nat → Nat → Prop} {a : Act} {w : World} {σ : St} (h : Inv E ι I a w σ) (k : Nat) : Inv E ι I a { w with drawn := k } σ := by
  have g : Goes w { w with drawn := k } I I ι ι σ.hp σ.hp := ⟨fun _ _ _ => rfl, fun _ _ h => h, Nat.le_refl _, fun o off len sz v _ h => h, fun o cs _ h => ⟨⟨_, h⟩, rfl⟩, fun o n sz get fz _ h => ⟨_, _, _, h, Nat.le_refl _, fun _ => rfl⟩, fun o s p _ h => ⟨⟨_, _, h⟩, rfl⟩⟩
  have gb : Goes { w with drawn := k } w I I ι ι σ.hp σ.hp := ⟨fun _ _ _ => rfl, fun _ _ h => h, Nat.le_refl _, fun o off len sz v _ h => h, fun o cs _ h => ⟨⟨_, h⟩, rfl⟩, fun o n sz get fz _ h => ⟨_, _, _, h, Nat.le_refl _, fun _ => rfl⟩, fun o s p _ h => ⟨⟨_, _, h⟩, rfl⟩⟩
  refine ⟨h.defers, h.tm.goes g, ⟨h.rel.base, h.rel.imm, h.rel.low, g.glob h.rel.glob, fun o x hx => ?_, h.rel.inj⟩, h.keep.goes g ⟨rfl, rfl, rfl, Nat.le_refl _, fun _ _ => rfl⟩⟩
  have ho := h.rel.obj o x hx
  cases x with
  | dead => trivial
  | iter s p => exact ho
  | box cs =>
    obtain ⟨b, vs, el, fr, e1, e2, e3, e4, e5, e6⟩ := ho
    exact ⟨b, vs, el, fr, e1, e2, e3, e4, fun k hk => (e5 k hk).goes g, e6⟩
  | arr m sz gt fz =>
    obtain ⟨h1, ho⟩ := ho
    refine ⟨h1, ?_⟩
    rcases ho with ⟨b, vs, el, fr, e1, e2, e3, e4, e5, e6⟩ | ho
    · exact .inl ⟨b, vs, el, fr, e1, e2, e3, e4, fun i j hi hj => (e5 i j hi hj).mono g.same g.imm, e6⟩
    · exact .inr ho

theorem noneL_eq : ∀ l : List Oper, noneL l = List.replicate l.length false
  | [] => rfl
  | _ :: r => by simp [noneL, noneL_eq r, List.replicate_succ]

theorem W_ok (hT : TabOk (Pf ()) (Tf ())) : ∀ (c : Code) (Q : Ex → St → Prop) (σ : St), W Pf Tf n c Q σ → VW (Pf ()) n c Q σ
  | .skip, Q, σ, h => VW_skip h
  | .region id ops draw, Q, σ, h => by
    cases draw with
    | false =>
      intro E ι I a w hn hi
      refine wp_region ?_
      have := wops_ok hT (E := E) (ops := ops) (Q := Post E Q) (K := Q .normal) (fun ι I a w σ h1 h2 => ⟨.normal, σ, ι, I, .normal, h1, h2⟩) ops.toList 0 rfl hi h
      rw [List.range_eq_range']
      simpa using this
    | true =>
      intro E ι I a w hn hi
      refine wp_region_any hT.mixed ?_
      have h1 := wany_of_draw hT.mono (lenL ops.toList) (noneL ops.toList) σ h
      have := wany_ok hT (E := E) (ops := ops) (Q := Post E Q) (K := Q .normal) (fun ι I a w σ h1 h2 => ⟨.normal, σ, ι, I, .normal, h1, h2⟩) _ _ (hi.drawn (w.drawn + 1)) h1
      rw [lenL_eq, noneL_eq] at this
      simpa using this
  | .seq a b, Q, σ, h => VW_seq ((W_ok hT a _ σ h).mono fun e s hs => by
      cases e with
      | normal => exact W_ok hT b Q s hs
      | exit id => exact hs
      | ret => exact hs)
  | .cond c a b, Q, σ, h => by
    unfold W at h
    split at h
    · rename_i t ht
      cases t with
      | true => exact VW_cond ht (fun e => W_ok hT a Q σ h) (fun e => by cases e)
      | false => exact VW_cond ht (fun e => by cases e) (fun e => W_ok hT b Q σ h)
    · exact h.elim
  | .block id b, Q, σ, h => VW_block (W_ok hT b _ σ h)
  | .loop b, Q, σ, h => by
    have h : LoopVW Pf n b Q σ := h
    rw [LoopVW_eq] at h
    exact h inferInstance
  | .exit id, Q, σ, h => VW_exit h
  | .ret, Q, σ, h => VW_ret h
  | .rangeFunc .., Q, σ, h => h.elim
  | .scope .., Q, σ, h => h.elim
  | .label .., Q, σ, h => h.elim
  | .goto .., Q, σ, h => h.elim
  | .refuse .., Q, σ, h => h.elim

/-! ### A function's results, and its contract -/
def wres1 (T : Tab) (tm : List A) (hp : AHeap) : ResultVar → (A → Prop) → Prop
  | .tmp t, K => K (getL tm t .undef)
  | .cell t ty, K => wload T ty (getL tm t .undef) hp K

def wresL (T : Tab) (tm : List A) (hp : AHeap) : List ResultVar → (List A → Prop) → Prop
  | [], K => K []
  | x :: r, K => wres1 T tm hp x (fun a => wresL T tm hp r (fun l => K (a :: l)))

def wres (T : Tab) (l : List ResultVar) (tm : List A) (hp : AHeap) (K : A → Prop) : Prop :=
  match l with
  | [x] => wres1 T tm hp x K
  | l => wresL T tm hp l (fun as => K (.tup as))

def resOne (tmps : Array Value) : ResultVar → Sem Value
  | .tmp t => pure (tmps.getD t undef)
  | .cell a t => do loadVar t (← asAddr (tmps.getD a undef))

theorem results_eq (fn : Func) (tmps : Array Value) : results fn tmps = (do
    let vs ← fn.results.mapM (resOne tmps)
    pure (if h : vs.size = 1 then vs[0] else .tuple vs)) := by
  unfold results
  congr 1

theorem wres1_ok (hT : TabOk P T) {B : Nat} {w : World} {I : Nat → Nat → Prop} {ι : Nat → Option Nat} {H : AHeap} {a : Act} {tm : List A} (r : Rel B ι I w H) (ha : RepT w I ι H a tm) (x : ResultVar) {K : A → Prop} (h : wres1 T tm H x K) :
    ∃ v y, (resOne a.tmps x).run P w = .ok v w ∧ RepA w I ι H v y ∧ K y := by
  cases x with
  | tmp t => exact ⟨_, _, rfl, ev_rep ha (.tmp t), h⟩
  | cell p t =>
    obtain ⟨v, y, h1, h2, h3⟩ := wload_pure hT r (ev_rep ha (.tmp p)) h
    refine ⟨v, y, ?_, h2, h3⟩
    have e : a.eval (.tmp p) = a.tmps.getD p undef := rfl
    rw [e] at h1
    have : ∀ x, (Instr.loadAt t x).run P w = .ok v w → (do loadVar t (← asAddr x) : Sem Value).run P w = .ok v w := fun x hx => by
      cases x with
      | pointer q =>
        cases q with
        | none => simp [Instr.loadAt, Instr.sureAddr] at hx
        | some q => simpa [Instr.loadAt, Instr.sureAddr, asAddr] using hx
      | _ => simp [Instr.loadAt, Instr.sureAddr] at hx
    exact this _ h1

theorem wresL_ok (hT : TabOk P T) {B : Nat} {w : World} {I : Nat → Nat → Prop} {ι : Nat → Option Nat} {H : AHeap} {a : Act} {tm : List A} (r : Rel B ι I w H) (ha : RepT w I ι H a tm) : ∀ (l : List ResultVar) {K : List A → Prop} (h : wresL T tm H l K),
    ∃ vs ys, (l.mapM (resOne a.tmps)).run P w = .ok vs w ∧ RepL w I ι H vs ys ∧ K ys ∧ vs.length = l.length
  | [], K, h => ⟨[], [], rfl, ⟨rfl, fun k hk => absurd hk (by simp)⟩, h, rfl⟩
  | x :: l, K, h => by
    obtain ⟨v, y, h1, h2, h3⟩ := wres1_ok hT r ha x h
    obtain ⟨vs, ys, g1, g2, g3, g4⟩ := wresL_ok hT r ha l h3
    refine ⟨v :: vs, y :: ys, ?_, ⟨by simp [g2.1], fun k hk => ?_⟩, g3, by simp [g4]⟩
    · rw [List.mapM_cons, Sem.run_bind, h1, Result.andThen_ok, Sem.run_bind, g1, Result.andThen_ok]; rfl
    · cases k with
      | zero => simpa using h2
      | succ k => simpa using g2.2 k (by simpa using hk)

theorem wres_ok (hT : TabOk P T) {B : Nat} {w : World} {I : Nat → Nat → Prop} {ι : Nat → Option Nat} {H : AHeap} {a : Act} {tm : List A} (r : Rel B ι I w H) (ha : RepT w I ι H a tm) (fn : Func) {K : A → Prop} (h : wres T fn.results.toList tm H K) :
    ∃ v y, (results fn a.tmps).run P w = .ok v w ∧ RepA w I ι H v y ∧ K y := by
  have hmap : ∀ (vs : List Value), (fn.results.toList.mapM (resOne a.tmps)).run P w = .ok vs w →
      (results fn a.tmps).run P w = .ok (if h : vs.toArray.size = 1 then vs.toArray[0] else .tuple vs.toArray) w := by
    intro vs hvs
    rw [results_eq, Sem.run_bind, Array.mapM_eq_mapM_toList, Sem.run_map, hvs]
    rfl
  unfold wres at h
  split at h
  · rename_i x hx
    obtain ⟨v, y, h1, h2, h3⟩ := wres1_ok hT r ha x h
    refine ⟨v, y, ?_, h2, h3⟩
    rw [hmap [v] ?_]
    · simp
    · rw [hx, List.mapM_cons, Sem.run_bind, h1, Result.andThen_ok]; rfl
  · rename_i hx
    obtain ⟨vs, ys, g1, g2, g3, g4⟩ := wresL_ok hT r ha _ h
    refine ⟨.tuple vs.toArray, .tup ys, ?_, .tup vs ys g2.1 g2.2, g3⟩
    rw [hmap vs g1, dif_neg]
    intro hc
    have : fn.results.toList.length = 1 := by rw [← g4]; simpa using hc
    obtain ⟨x, hx'⟩ := List.length_eq_one_iff.1 this
    exact hx x hx'

def retQ (T : Unit → Tab) (l : List ResultVar) (R : A → AHeap → Prop) : Ex → St → Prop
  | .normal, σ => wres (T ()) l σ.tm σ.hp (fun a => R a σ.hp)
  | .ret, σ => wres (T ()) l σ.tm σ.hp (fun a => R a σ.hp)
  | _, _ => False

def bodyOf (f : Func) : Code := match f.body with
  | some c => c
  | none => .refuse ""

/-- the slots at the entry -/
def slots (args : List A) : Nat → List A
  | 0 => args
  | n + 1 => match args with
    | [] => .undef :: slots [] n
    | a :: r => a :: slots r n

theorem slots_eq : ∀ (n : Nat) (args : List A), args.length ≤ n → slots args n = args ++ List.replicate (n - args.length) .undef
  | 0, args, h => by have : args = [] := List.eq_nil_of_length_eq_zero (by omega); subst this; rfl
  | n + 1, [], h => by
    simp only [slots, slots_eq n [] (by simp)]
    simp [List.replicate_succ]
  | n + 1, a :: r, h => by
    simp only [slots, slots_eq n r (by simpa using h)]
    simp

omit [Lim] in
/-- A CONTRACT out of the function's body. -/
theorem VCalls_of_VW (hT : TabOk P (Tf ())) {K : FuncId} {fn : Func} (hf : P.funcs[K]? = some fn) (hb : fn.body.isSome = true) {args : List A} {H : AHeap} {R : A → AHeap → Prop} (hl : lenL args ≤ fn.ntmps)
    (h : ∀ [Lim], VW P H.length (bodyOf fn) (retQ Tf fn.results.toList R) ⟨slots args fn.ntmps, H⟩) : VCalls P K args H R := by
  intro lim B ι I w vs hrel hargs
  obtain ⟨c, hc⟩ := Option.isSome_iff_exists.1 hb
  rw [lenL_eq] at hl
  refine calls_of_wp hf hc ?_
  have hbody : bodyOf fn = c := by simp [bodyOf, hc]
  rw [hbody] at h
  have hvl := hargs.1
  refine wp_mono (h ⟨B, w, I, ι, H⟩ ι I _ w rfl ⟨rfl, ⟨?_, fun t ht => ?_⟩, hrel, ⟨.refl _ _, Nat.le_refl _, fun _ _ h => h⟩⟩) ?_
  · rw [slots_eq _ _ hl]; simp [hvl]
  · rw [slots_eq _ _ hl] at ht ⊢
    simp only [List.length_append, List.length_replicate] at ht
    by_cases hta : t < args.length
    · have := hargs.2 t hta
      have e1 : (args ++ List.replicate (fn.ntmps - args.length) A.undef).getD t .undef = args.getD t .undef := by
        simp [List.getD_eq_getElem?_getD, List.getElem?_append, hta]
      have e2 : (vs.toArray ++ Array.replicate (fn.ntmps - vs.toArray.size) undef).getD t undef = vs.getD t undef := by
        simp [Array.getD_eq_getD_getElem?, List.getD_eq_getElem?_getD, Array.getElem?_append, hvl, hta]
      rw [e1, e2]; exact this
    · have e1 : (args ++ List.replicate (fn.ntmps - args.length) A.undef).getD t .undef = .undef := by
        simp only [List.getD_eq_getElem?_getD, List.getElem?_append, hta, if_false, List.getElem?_replicate]
        split <;> rfl
      rw [e1]; exact .undef _
  · rintro e a' w' ⟨ex, σ', ι', I', h1, h2, h3⟩
    have fin : retQ Tf fn.results.toList R .ret σ' → a'.defers = [] ∧ ∃ v, (results fn a'.tmps).run P w' = .ok v w' ∧
        ∃ v2 r H' ι' I', Ending.returned v = .returned v2 ∧ R r H' ∧ Rel B ι' I' w' H' ∧ RepA w' I' ι' H' v2 r ∧ Keep B w I ι H w' I' ι' H' := fun h2 => by
      obtain ⟨v, y, g1, g2, g3⟩ := wres_ok hT h3.rel h3.tm fn h2
      exact ⟨h3.defers, v, g1, v, y, σ'.hp, ι', I', rfl, g3, h3.rel, g2, h3.keep⟩
    cases h1 with
    | normal => exact fin h2
    | exit id => exact h2.elim
    | ret => exact fin h2

omit [Ops] [Lim] in
/-- out of the evaluated body, whatever the words are; R' stands for the contract's postcondition, so that evaluation leaves it closed -/
theorem VCalls_of_W {Tf : ∀ [Ops], Unit → Tab} (hT : ∀ [Ops], TabOk (Pf ()) (Tf ())) {K : FuncId} {fn : Func} (hf : (Pf ()).funcs[K]? = some fn) (hb : fn.body.isSome = true) {args : List A} {H : AHeap} {R : A → AHeap → Prop} (hl : lenL args ≤ fn.ntmps)
    (h : ∀ [Ops] (n : Nat) (R' : A → AHeap → Prop), H.length = n → (∀ r H', R r H' → R' r H') → W Pf Tf n (bodyOf fn) (retQ Tf fn.results.toList R') ⟨slots args fn.ntmps, H⟩) : VCalls (Pf ()) K args H R :=
  Ops.exists_one.elim fun inst => VCalls_of_VW (Tf := Tf) hT hf hb hl fun {_} => W_ok hT _ _ _ (h _ R rfl fun _ _ h => h)

end Go.VM
