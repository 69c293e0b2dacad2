/- Part of the proof: VO, VS, VX, VU, VP, VT, VY, VW, VU2. -/
import Derived.Laws.StructEq
import Derived.Laws.RangeString
import Derived.Laws.RangeAny
import Derived.ProofKit
import Derived.JoinedCond
import Derived.Deep.DeepHandedRow
import Derived.LaidSub
import Derived.Lay
import Derived.Lib.LaidTab
import Derived.Test.YtfbecfnagidioaaGreatDoorGV3
/- The weakest precondition of a code, computed; a function's contract out of its body. -/
set_option linter.unusedSimpArgs false
set_option linter.unusedVariables false
set_option linter.unusedSectionVars false
namespace Go.VM
open Ops
variable [Ops] [Glb] [Lim]

def wop (P : Unit → Program) (T : Unit → Tab) (o : Oper) (σ : St) (K : St → Prop) : Prop :=
  wopR P T o σ.tm σ.hp (fun r hp => K ⟨put σ.tm o.dst r, hp⟩)

def wops (P : Unit → Program) (T : Unit → Tab) (all : List Oper) : List Oper → St → (St → Prop) → Prop
  | [], σ, K => K σ
  | o :: rest, σ, K => wopG P T all o σ.tm σ.hp (fun r hp => wops P T all rest ⟨put σ.tm o.dst r, hp⟩ K)

inductive LoopVW (P : Unit → Program) (n : Nat) (c : Code) (Q : Ex → St → Prop) (σ : St) : Prop
  | mk (h : ∀ lim : Lim, @VW _ lim (P ()) n (.loop c) Q σ)
theorem LoopVW_eq (P : Unit → Program) (n : Nat) (c : Code) (Q : Ex → St → Prop) (σ : St) : LoopVW P n c Q σ = ∀ lim : Lim, @VW _ lim (P ()) n (.loop c) Q σ := propext ⟨fun ⟨h⟩ => h, .mk⟩
def noneL : List Oper → List Bool
  | [] => []
  | _ :: r => false :: noneL r

/-- THE WEAKEST PRECONDITION. It stops at loops, and at regions that draw their order. -/
def W (P : Unit → Program) (T : Unit → Tab) (n : Nat) : Code → (Ex → St → Prop) → St → Prop
  | .skip, Q, σ => Q .normal σ
  | .region id ops draw, Q, σ => match draw with
    | false => wops P T ops.toList ops.toList σ (Q .normal)
    | true => wdraw P T ops.toList (lenL ops.toList) (noneL ops.toList) σ (Q .normal)
  | .seq a b, Q, σ => W P T n a (seqQ (W P T n b Q) Q) σ
  | .cond c a b, Q, σ => match ev σ.tm c with
    | .d (.bool t) => (match t with
      | true => W P T n a Q σ
      | false => W P T n b Q σ)
    | _ => False
  | .block id b, Q, σ => W P T n b (blockQ id Q) σ
  | .loop b, Q, σ => LoopVW P n b Q σ
  | .exit id, Q, σ => Q (.exit id) σ
  | .ret, Q, σ => Q .ret σ
  | _, _, _ => False

variable {P : Program} {T : Tab} {Pf : Unit → Program} {Tf : Unit → Tab} {n : Nat}

theorem getD_append_list (xs ys : List Value) (k : Nat) (d : Value) : (xs ++ ys).getD k d = if k < xs.length then xs.getD k d else ys.getD (k - xs.length) d := by
  simp only [List.getD_eq_getElem?_getD, List.getElem?_append]
  split <;> rfl

theorem RepL.append {w : World} {I : Nat → Nat → Prop} {ι : Nat → Option Nat} {H : AHeap} {vs vs' : List Value} {xs xs' : List A} (h : RepL w I ι H vs xs) (h' : RepL w I ι H vs' xs') : RepL w I ι H (vs ++ vs') (xs ++ xs') := by
  refine ⟨by simp [h.1, h'.1], fun k hk => ?_⟩
  rw [List.length_append] at hk
  rw [getD_append_list]
  have e : (xs ++ xs').getD k A.undef = if k < xs.length then xs.getD k .undef else xs'.getD (k - xs.length) .undef := by
    simp only [List.getD_eq_getElem?_getD, List.getElem?_append]
    split <;> rfl
  rw [e, h.1]
  split
  · exact h.2 k ‹_›
  · exact h'.2 _ (by omega)

theorem Keep.goes {B : Gd} {w0 w w' : World} {I0 I I' : Nat → Nat → Prop} {ι0 ι ι' : Nat → Option Nat} {H0 H H' : AHeap} (k : Keep B w0 I0 ι0 H0 w I ι H) (g : Goes w w' I I' ι ι' H H') (hb : Below B w w') : Keep B w0 I0 ι0 H0 w' I' ι' H' :=
  ⟨k.below.trans hb, fun b i h => (g.same b i (k.imm b i h)).trans (k.same b i h), fun b i h => g.imm b i (k.imm b i h), Nat.le_trans k.len g.len, fun v x h => (k.rep v x h).goes g⟩

theorem Keep.trans {B : Gd} {w0 w w' : World} {I0 I I' : Nat → Nat → Prop} {ι0 ι ι' : Nat → Option Nat} {H0 H H' : AHeap} (k : Keep B w0 I0 ι0 H0 w I ι H) (g : Keep B w I ι H w' I' ι' H') : Keep B w0 I0 ι0 H0 w' I' ι' H' :=
  ⟨k.below.trans g.below, fun b i h => (g.same b i (k.imm b i h)).trans (k.same b i h), fun b i h => g.imm b i (k.imm b i h), Nat.le_trans k.len g.len, fun v x h => g.rep v x (k.rep v x h)⟩

theorem wop_ok (hT : TabOk (Pf ()) (Tf ())) {E : Entry} {ι : Nat → Option Nat} {I : Nat → Nat → Prop} {a : Act} {w : World} {σ : St} {o : Oper} {K : St → Prop} (hi : Inv E ι I a w σ) (h : wop Pf Tf o σ K) (next : Act → World → Prop) (Q : Exit → Act → World → Prop)
    (hn : ∀ ι' I' a' w' σ', K σ' → Inv E ι' I' a' w' σ' → next a' w') : o.wp (Pf ()) a w next Q := by
  unfold Oper.wp
  unfold wop wopR at h
  split at h
  · rename_i f args at_ ho
    split at h
    · rename_i k first caps hf
      obtain ⟨hfn, h⟩ := h
      obtain ⟨fn, e1, e2, e3⟩ := hT.fn k hfn
      have hc := ev_rep hi.tm f
      rw [hf] at hc
      generalize hv : a.eval f = vf at hc
      cases hc with | clo _ fv cv _ _ l1 l2 r1 r2 =>
      obtain ⟨g1, g2⟩ := list_rep hi.tm args
      have hargs : RepL w I ι σ.hp (fv ++ (args.map a.eval).toList ++ cv) (first ++ args.toList.map (ev σ.tm) ++ caps) := RepL.append (RepL.append ⟨l1, r1⟩ ⟨g1, g2⟩) ⟨l2, r2⟩
      rw [CallW_eq] at h
      have hcall := h inferInstance E.B ι I w _ hi.rel hargs
      have hrun : (execOp a.eval o).run (Pf ()) w = .ok (.enter k (fv ++ (args.map a.eval).toList ++ cv).toArray) w := by
        have ha : (fv ++ (args.map a.eval).toList ++ cv).toArray = fv.toArray ++ args.map a.eval ++ cv.toArray := by
          apply Array.ext'
          simp
        rw [ha]
        have e2' : ¬ fn.body = none := fun h => by simp [h] at e2
        have e3' : ¬ fn.name = "runtime.NumGoroutine" := by simpa using e3
        simp [execOp, ho, resolve, hv, Deferred.ofValue, invoke, callFunc, e1, e2', e3']
      rw [hrun, Oper.upon_enter]
      refine hcall.mono ?_
      rintro e w' ⟨v, r, H', ι', I', rfl, hk, hrel, hrep, hkeep⟩
      refine hn ι' I' _ _ _ hk ⟨?_, ?_, hrel, hi.keep.trans hkeep⟩
      · have := hi.defers; cases o.dst <;> simpa [Act.put] using this
      · exact RepT.put ⟨hi.tm.1, fun t ht => hkeep.rep _ _ (hi.tm.2 t ht)⟩ o.dst hrep
    · exact h.elim
  · obtain ⟨nx, v, r, w', I', ι', H', h1, h2, h3, h4, h5, h6, h7⟩ := wprim_ok hT hi.rel hi.tm h
    rw [h1]
    have hfin : next (a.put o.dst v) w' := by
      refine hn ι' I' _ _ _ h3 ⟨?_, ?_, h5, hi.keep.goes h6 h7⟩
      · have := hi.defers; cases o.dst <;> simpa [Act.put] using this
      · exact (hi.tm.goes h6).put o.dst h4
    rcases h2 with rfl | ⟨rfl, rfl⟩
    · exact hfin
    · exact hfin

theorem yieldA_ok {w : World} {I : Nat → Nat → Prop} {ι : Nat → Option Nat} {H : AHeap} {a : Act} {tm : List A} (hi : RepT w I ι H a tm) {ops : Array Oper} {j : Nat} {b : Option Bool} (h : yieldA ops.toList j tm = some b) : yielded ops a.tmps j = b := by
  unfold yieldA at h
  split at h
  · rename_i d hgd
    unfold gdst at hgd
    rw [getL_eq] at hgd
    split at hgd
    · rename_i o ho
      have hd : o.dst = some d := hgd
      have ho' : ops[j]? = some o := by
        rw [List.getD_eq_getElem?_getD, List.getElem?_map] at ho
        cases hq : ops.toList[j]? with
        | none => simp [hq] at ho
        | some o' => simp [hq] at ho; subst ho; simpa using hq
      rw [getL_eq] at h
      have slot : ∀ x, tm.getD d .undef = x → x ≠ .undef → d < a.tmps.size ∧ RepA w I ι H (a.tmps.getD d undef) x := by
        intro x hx hne
        have hlt : d < tm.length := by
          rcases Nat.lt_or_ge d tm.length with h | h
          · exact h
          · rw [List.getD_eq_getElem?_getD, List.getElem?_eq_none h] at hx
            exact absurd hx.symm hne
        have := hi.2 d hlt
        rw [hx] at this
        exact ⟨by rw [hi.1]; exact hlt, this⟩
      split at h
      · rename_i b' hb
        obtain rfl := Option.some.inj h
        obtain ⟨hlt', hr⟩ := slot _ hb (by simp)
        have hv := rep_bool hr
        have hv' : a.tmps[d]? = some (.bool b') := by
          rw [Array.getElem?_eq_getElem hlt']
          simpa [Array.getD_eq_getD_getElem?, Array.getElem?_eq_getElem hlt'] using hv
        simp [yielded, ho', hd, hv']
      · rename_i xs hb
        obtain rfl := Option.some.inj h
        obtain ⟨hlt', hr⟩ := slot _ hb (by simp)
        generalize hv : a.tmps.getD d undef = v at hr
        cases hr with | tup vs _ h1 h2 =>
        have hv' : a.tmps[d]? = some (.tuple vs.toArray) := by
          rw [Array.getElem?_eq_getElem hlt']
          simpa [Array.getD_eq_getD_getElem?, Array.getElem?_eq_getElem hlt'] using hv
        simp [yielded, ho', hd, hv']
      · cases h
    · cases hgd
  · cases h

theorem Bool.same_eq (a b : Bool) : Bool.same a b = (a == b) := by cases a <;> cases b <;> rfl

theorem wopG_ok (hT : TabOk (Pf ()) (Tf ())) {E : Entry} {ι : Nat → Option Nat} {I : Nat → Nat → Prop} {a : Act} {w : World} {σ : St} {ops : Array Oper} {i : Nat} {o : Oper} {K : St → Prop} (hk : ops[i]? = some o) (hi : Inv E ι I a w σ)
    (h : wopG Pf Tf ops.toList o σ.tm σ.hp (fun r hp => K ⟨put σ.tm o.dst r, hp⟩)) (next : Act → World → Prop) (Q : Exit → Act → World → Prop) (hn : ∀ ι' I' a' w' σ', K σ' → Inv E ι' I' a' w' σ' → next a' w') : wpOp (Pf ()) ops Q i next a w := by
  unfold wpOp
  simp only [hk]
  unfold wopG at h
  split at h
  · rename_i hg
    have hw : Region.wanted o (yielded ops a.tmps) = true := by simp [Region.wanted, hg]
    rw [if_pos hw]
    exact .inl (wop_ok hT hi h _ _ hn)
  · rename_i j want hg
    split at h
    · rename_i b hb
      have hy := yieldA_ok hi.tm hb
      by_cases e : b = want
      · rw [show Bool.same b want = true by rw [Bool.same_eq]; simp [e]] at h
        have hw : Region.wanted o (yielded ops a.tmps) = true := by simp [Region.wanted, hg, hy, e]
        rw [if_pos hw]
        exact .inl (wop_ok hT hi h _ _ hn)
      · rw [show Bool.same b want = false by rw [Bool.same_eq]; simpa using e] at h
        have hw : ¬ Region.wanted o (yielded ops a.tmps) = true := by simp [Region.wanted, hg, hy, e]
        rw [if_neg hw]
        refine hn ι I _ _ _ h ⟨?_, hi.tm.put o.dst (.tup [] [] rfl (fun k hk => absurd hk (by simp))), hi.rel, hi.keep⟩
        have := hi.defers; cases o.dst <;> simpa [Act.put] using this
    · rename_i hb
      have hy := yieldA_ok hi.tm hb
      have hw : ¬ Region.wanted o (yielded ops a.tmps) = true := by simp [Region.wanted, hg, hy]
      rw [if_neg hw]
      refine hn ι I _ _ _ h ⟨?_, hi.tm.put o.dst (.tup [] [] rfl (fun k hk => absurd hk (by simp))), hi.rel, hi.keep⟩
      have := hi.defers; cases o.dst <;> simpa [Act.put] using this
    · exact h.elim

theorem wops_ok (hT : TabOk (Pf ()) (Tf ())) {E : Entry} {ops : Array Oper} {Q : Exit → Act → World → Prop} {K : St → Prop} (hK : ∀ ι I a w σ, K σ → Inv E ι I a w σ → Q .normal a w) :
    ∀ (l : List Oper) (k : Nat), ops.toList.drop k = l → ∀ {ι : Nat → Option Nat} {I : Nat → Nat → Prop} {a : Act} {w : World} {σ : St}, Inv E ι I a w σ → wops Pf Tf ops.toList l σ K → wpOps (Pf ()) ops Q (List.range' k l.length) a w
  | [], k, _, ι, I, a, w, σ, hi, h => hK ι I a w σ h hi
  | o :: l, k, hl, ι, I, a, w, σ, hi, h => by
    have hk : ops[k]? = some o := by
      have : (ops.toList.drop k)[0]? = some o := by rw [hl]; rfl
      simpa using this
    have hl' : ops.toList.drop (k + 1) = l := by
      rw [← List.tail_drop, hl]; rfl
    have ih := fun {ι I a w σ} => wops_ok hT hK l (k + 1) hl' (ι := ι) (I := I) (a := a) (w := w) (σ := σ)
    simp only [List.length_cons, List.range'_succ]
    rw [wpOps_cons]
    exact wopG_ok hT hk hi (K := fun σ' => wops Pf Tf ops.toList l σ' K) h _ _ (fun ι' I' a' w' σ' h1 h2 => ih h2 h1)

theorem edgesOk_eq {listed : List Bool} : ∀ (es : List Edge), edgesOk listed es = es.all fun e => !Region.binds .any e || listed.getD e.on false
  | [] => rfl
  | e :: r => by
    have he : edgeOk listed e = (!Region.binds .any e || listed.getD e.on false) := by
      unfold edgeOk Region.binds
      rw [getL_eq]
      split <;> rename_i hg <;> simp [*]
    simp only [edgesOk, List.all_cons, he, edgesOk_eq r]
    cases (!Region.binds .any e || listed.getD e.on false) <;> simp

theorem rdy_mem {ops : Array Oper} {listed : List Bool} {i : Nat} : i ∈ Region.ready .any ops listed.toArray ↔ ∃ o, ops.toList[i]? = some o ∧ rdy listed i o = true := by
  rw [mem_ready]
  constructor
  · rintro ⟨h1, o, h2, h3⟩
    refine ⟨o, by simpa using h2, ?_⟩
    unfold rdy
    rw [getL_eq, show listed.getD i true = false by simpa [Array.getD_eq_getD_getElem?, List.getD_eq_getElem?_getD] using h1]
    simp only [edgesOk_eq, List.all_eq_true, Bool.or_eq_true, Bool.not_eq_true']
    intro e he
    cases hb : Region.binds .any e with
    | false => exact .inl rfl
    | true => exact .inr (by simpa [Array.getD_eq_getD_getElem?, List.getD_eq_getElem?_getD] using h3 e (by simpa using he) hb)
  · rintro ⟨o, h2, h3⟩
    unfold rdy at h3
    rw [getL_eq] at h3
    split at h3
    · cases h3
    · rename_i h1
      refine ⟨by simpa [Array.getD_eq_getD_getElem?, List.getD_eq_getElem?_getD] using h1, o, by simpa using h2, fun e he hb => ?_⟩
      simp only [edgesOk_eq, List.all_eq_true, Bool.or_eq_true, Bool.not_eq_true'] at h3
      have := h3 e (by simpa using he)
      rw [hb] at this
      simpa [Array.getD_eq_getD_getElem?, List.getD_eq_getElem?_getD] using this

theorem wany_ok (hT : TabOk (Pf ()) (Tf ())) {E : Entry} {ops : Array Oper} {Q : Exit → Act → World → Prop} {K : St → Prop} (hK : ∀ ι I a w σ, K σ → Inv E ι I a w σ → Q .normal a w) :
    ∀ (f : Nat) (listed : List Bool) {ι : Nat → Option Nat} {I : Nat → Nat → Prop} {a : Act} {w : World} {σ : St}, Inv E ι I a w σ → wany Pf Tf ops.toList f listed σ K → wpAny (Pf ()) .any ops Q f listed.toArray a w := by
  have none_of : ∀ listed : List Bool, Region.ready .any ops listed.toArray = [] → ∀ i o, ops.toList[i]? = some o → rdy listed i o = false := fun listed h i o ho => by
    cases hr : rdy listed i o with
    | false => rfl
    | true =>
      have := (rdy_mem (listed := listed)).2 ⟨o, ho, hr⟩
      rw [h] at this
      cases this
  intro f
  induction f with
  | zero =>
    intro listed ι I a w σ hi h
    refine ⟨?_, hK _ _ _ _ _ h.2 hi⟩
    apply List.eq_nil_iff_forall_not_mem.2
    intro i hm
    obtain ⟨o, h1, h2⟩ := rdy_mem.1 hm
    rw [h.1 i o h1] at h2
    cases h2
  | succ f ih =>
    intro listed ι I a w σ hi h
    refine ⟨fun hr => hK _ _ _ _ _ (h.1 (none_of listed hr)) hi, fun i hm => ?_⟩
    obtain ⟨o, h1, h2⟩ := rdy_mem.1 hm
    have := h.2 i o h1 h2
    refine wopG_ok hT (by simpa using h1) hi (K := fun σ' => wany Pf Tf ops.toList f (setL listed i true) σ' K) this _ _ (fun ι' I' a' w' σ' h3 h4 => ?_)
    have := ih _ h4 h3
    rw [setL_eq] at this
    simpa using this

theorem Inv.drawn {E : Entry} {ι : Nat → Option Nat} {I : Nat → Nat → Prop} {a : Act} {w : World} {σ : St} (h : Inv E ι I a w σ) (k : Nat) : Inv E ι I a { w with drawn := k } σ := by
  have g : Goes w { w with drawn := k } I I ι ι σ.hp σ.hp := ⟨fun _ _ _ => rfl, fun _ _ h => h, Nat.le_refl _, fun o off len sz v _ h => h, fun o cs _ h hbx => ⟨⟨_, h, hbx⟩, rfl⟩, fun o n sz get fz _ h => ⟨_, _, _, h, Nat.le_refl _, fun _ => rfl⟩, fun o s p _ h => ⟨⟨_, _, h⟩, rfl⟩⟩
  have gb : Goes { w with drawn := k } w I I ι ι σ.hp σ.hp := ⟨fun _ _ _ => rfl, fun _ _ h => h, Nat.le_refl _, fun o off len sz v _ h => h, fun o cs _ h hbx => ⟨⟨_, h, hbx⟩, rfl⟩, fun o n sz get fz _ h => ⟨_, _, _, h, Nat.le_refl _, fun _ => rfl⟩, fun o s p _ h => ⟨⟨_, _, h⟩, rfl⟩⟩
  exact ⟨h.defers, h.tm.goes g, Rel.heap (w := w) (w' := { w with drawn := k }) rfl h.rel, h.keep.goes g ⟨rfl, rfl, rfl, Nat.le_refl _, fun _ _ _ => rfl⟩⟩

theorem noneL_eq : ∀ l : List Oper, noneL l = List.replicate l.length false
  | [] => rfl
  | _ :: r => by simp [noneL, noneL_eq r, List.replicate_succ]

theorem W_ok (hT : TabOk (Pf ()) (Tf ())) : ∀ (c : Code) (Q : Ex → St → Prop) (σ : St), W Pf Tf n c Q σ → VW (Pf ()) n c Q σ
  | .skip, Q, σ, h => VW_skip h
  | .region id ops draw, Q, σ, h => by
    cases draw with
    | false =>
      intro E ι I a w hn hi
      refine wp_region ?_
      have := wops_ok hT (E := E) (ops := ops) (Q := Post E Q) (K := Q .normal) (fun ι I a w σ h1 h2 => ⟨.normal, σ, ι, I, .normal, h1, h2⟩) ops.toList 0 rfl hi h
      rw [List.range_eq_range']
      simpa using this
    | true =>
      intro E ι I a w hn hi
      refine wp_region_any hT.mixed ?_
      have h1 := wany_of_draw hT.mono (lenL ops.toList) (noneL ops.toList) σ h
      have := wany_ok hT (E := E) (ops := ops) (Q := Post E Q) (K := Q .normal) (fun ι I a w σ h1 h2 => ⟨.normal, σ, ι, I, .normal, h1, h2⟩) _ _ (hi.drawn (w.drawn + 1)) h1
      rw [lenL_eq, noneL_eq] at this
      simpa using this
  | .seq a b, Q, σ, h => VW_seq ((W_ok hT a _ σ h).mono fun e s hs => by
      cases e with
      | normal => exact W_ok hT b Q s hs
      | exit id => exact hs
      | ret => exact hs)
  | .cond c a b, Q, σ, h => by
    unfold W at h
    split at h
    · rename_i t ht
      cases t with
      | true => exact VW_cond ht (fun e => W_ok hT a Q σ h) (fun e => by cases e)
      | false => exact VW_cond ht (fun e => by cases e) (fun e => W_ok hT b Q σ h)
    · exact h.elim
  | .block id b, Q, σ, h => VW_block (W_ok hT b _ σ h)
  | .loop b, Q, σ, h => by
    have h : LoopVW Pf n b Q σ := h
    rw [LoopVW_eq] at h
    exact h inferInstance
  | .exit id, Q, σ, h => VW_exit h
  | .ret, Q, σ, h => VW_ret h
  | .rangeFunc .., Q, σ, h => h.elim
  | .scope .., Q, σ, h => h.elim
  | .label .., Q, σ, h => h.elim
  | .goto .., Q, σ, h => h.elim
  | .refuse .., Q, σ, h => h.elim

/-! ### A function's results, and its contract -/
def wres1 (T : Tab) (tm : List A) (hp : AHeap) : ResultVar → (A → Prop) → Prop
  | .tmp t, K => K (getL tm t .undef)
  | .cell t ty, K => wload T ty (getL tm t .undef) hp K

def wresL (T : Tab) (tm : List A) (hp : AHeap) : List ResultVar → (List A → Prop) → Prop
  | [], K => K []
  | x :: r, K => wres1 T tm hp x (fun a => wresL T tm hp r (fun l => K (a :: l)))

def wres (T : Tab) (l : List ResultVar) (tm : List A) (hp : AHeap) (K : A → Prop) : Prop :=
  match l with
  | [x] => wres1 T tm hp x K
  | l => wresL T tm hp l (fun asx => K (.tup asx))

def resOne (tmps : Array Value) : ResultVar → Sem Value
  | .tmp t => pure (tmps.getD t undef)
  | .cell a t => do loadVar t (← asAddr (tmps.getD a undef))

theorem results_eq (fn : Func) (tmps : Array Value) : results fn tmps = (do
    let vs ← fn.results.mapM (resOne tmps)
    pure (if h : vs.size = 1 then vs[0] else .tuple vs)) := by
  unfold results
  congr 1

theorem wres1_ok (hT : TabOk P T) {B : Gd} {w : World} {I : Nat → Nat → Prop} {ι : Nat → Option Nat} {H : AHeap} {a : Act} {tm : List A} (r : Rel B ι I w H) (ha : RepT w I ι H a tm) (x : ResultVar) {K : A → Prop} (h : wres1 T tm H x K) :
    ∃ v y, (resOne a.tmps x).run P w = .ok v w ∧ RepA w I ι H v y ∧ K y := by
  cases x with
  | tmp t => exact ⟨_, _, rfl, ev_rep ha (.tmp t), h⟩
  | cell p t =>
    obtain ⟨v, y, h1, h2, h3⟩ := wload_pure hT r (ev_rep ha (.tmp p)) h
    refine ⟨v, y, ?_, h2, h3⟩
    have e : a.eval (.tmp p) = a.tmps.getD p undef := rfl
    rw [e] at h1
    have : ∀ x, (Instr.loadAt t x).run P w = .ok v w → (do loadVar t (← asAddr x) : Sem Value).run P w = .ok v w := fun x hx => by
      cases x with
      | pointer q =>
        cases q with
        | none => simp [Instr.loadAt, Instr.sureAddr] at hx
        | some q => simpa [Instr.loadAt, Instr.sureAddr, asAddr] using hx
      | _ => simp [Instr.loadAt, Instr.sureAddr] at hx
    exact this _ h1

theorem wresL_ok (hT : TabOk P T) {B : Gd} {w : World} {I : Nat → Nat → Prop} {ι : Nat → Option Nat} {H : AHeap} {a : Act} {tm : List A} (r : Rel B ι I w H) (ha : RepT w I ι H a tm) : ∀ (l : List ResultVar) {K : List A → Prop} (h : wresL T tm H l K),
    ∃ vs ys, (l.mapM (resOne a.tmps)).run P w = .ok vs w ∧ RepL w I ι H vs ys ∧ K ys ∧ vs.length = l.length
  | [], K, h => ⟨[], [], rfl, ⟨rfl, fun k hk => absurd hk (by simp)⟩, h, rfl⟩
  | x :: l, K, h => by
    obtain ⟨v, y, h1, h2, h3⟩ := wres1_ok hT r ha x h
    obtain ⟨vs, ys, g1, g2, g3, g4⟩ := wresL_ok hT r ha l h3
    refine ⟨v :: vs, y :: ys, ?_, ⟨by simp [g2.1], fun k hk => ?_⟩, g3, by simp [g4]⟩
    · rw [List.mapM_cons, Sem.run_bind, h1, Result.andThen_ok, Sem.run_bind, g1, Result.andThen_ok]; rfl
    · cases k with
      | zero => simpa using h2
      | succ k => simpa using g2.2 k (by simpa using hk)

theorem wres_ok (hT : TabOk P T) {B : Gd} {w : World} {I : Nat → Nat → Prop} {ι : Nat → Option Nat} {H : AHeap} {a : Act} {tm : List A} (r : Rel B ι I w H) (ha : RepT w I ι H a tm) (fn : Func) {K : A → Prop} (h : wres T fn.results.toList tm H K) :
    ∃ v y, (results fn a.tmps).run P w = .ok v w ∧ RepA w I ι H v y ∧ K y := by
  have hmap : ∀ (vs : List Value), (fn.results.toList.mapM (resOne a.tmps)).run P w = .ok vs w →
      (results fn a.tmps).run P w = .ok (if h : vs.toArray.size = 1 then vs.toArray[0] else .tuple vs.toArray) w := by
    intro vs hvs
    rw [results_eq, Sem.run_bind, Array.mapM_eq_mapM_toList, Sem.run_map, hvs]
    rfl
  unfold wres at h
  split at h
  · rename_i x hx
    obtain ⟨v, y, h1, h2, h3⟩ := wres1_ok hT r ha x h
    refine ⟨v, y, ?_, h2, h3⟩
    rw [hmap [v] ?_]
    · simp
    · rw [hx, List.mapM_cons, Sem.run_bind, h1, Result.andThen_ok]; rfl
  · rename_i hx
    obtain ⟨vs, ys, g1, g2, g3, g4⟩ := wresL_ok hT r ha _ h
    refine ⟨.tuple vs.toArray, .tup ys, ?_, .tup vs ys g2.1 g2.2, g3⟩
    rw [hmap vs g1, dif_neg]
    intro hc
    have : fn.results.toList.length = 1 := by rw [← g4]; simpa using hc
    obtain ⟨x, hx'⟩ := List.length_eq_one_iff.1 this
    exact hx x hx'

def retQ (T : Unit → Tab) (l : List ResultVar) (R : A → AHeap → Prop) : Ex → St → Prop
  | .normal, σ => wres (T ()) l σ.tm σ.hp (fun a => R a σ.hp)
  | .ret, σ => wres (T ()) l σ.tm σ.hp (fun a => R a σ.hp)
  | _, _ => False

def bodyOf (f : Func) : Code := match f.body with
  | some c => c
  | none => .refuse ""

/-- the slots at the entry -/
def slots (args : List A) : Nat → List A
  | 0 => args
  | n + 1 => match args with
    | [] => .undef :: slots [] n
    | a :: r => a :: slots r n

theorem slots_eq : ∀ (n : Nat) (args : List A), args.length ≤ n → slots args n = args ++ List.replicate (n - args.length) .undef
  | 0, args, h => by have : args = [] := List.eq_nil_of_length_eq_zero (by omega); subst this; rfl
  | n + 1, [], h => by
    simp only [slots, slots_eq n [] (by simp)]
    simp [List.replicate_succ]
  | n + 1, a :: r, h => by
    simp only [slots, slots_eq n r (by simpa using h)]
    simp

omit [Lim] in
/-- A CONTRACT out of the function's body. -/
theorem VCalls_of_VW (hT : TabOk P (Tf ())) {K : FuncId} {fn : Func} (hf : P.funcs[K]? = some fn) (hb : fn.body.isSome = true) {args : List A} {H : AHeap} {R : A → AHeap → Prop} (hl : lenL args ≤ fn.ntmps)
    (h : ∀ [Lim], VW P H.length (bodyOf fn) (retQ Tf fn.results.toList R) ⟨slots args fn.ntmps, H⟩) : VCalls P K args H R := by
  intro lim B ι I w vs hrel hargs
  obtain ⟨c, hc⟩ := Option.isSome_iff_exists.1 hb
  rw [lenL_eq] at hl
  refine calls_of_wp hf hc ?_
  have hbody : bodyOf fn = c := by simp [bodyOf, hc]
  rw [hbody] at h
  have hvl := hargs.1
  refine wp_mono (h ⟨B, w, I, ι, H⟩ ι I _ w rfl ⟨rfl, ⟨?_, fun t ht => ?_⟩, hrel, ⟨.refl _ _, fun _ _ _ => rfl, fun _ _ h => h, Nat.le_refl _, fun _ _ h => h⟩⟩) ?_
  · rw [slots_eq _ _ hl]; simp [hvl]
  · rw [slots_eq _ _ hl] at ht ⊢
    simp only [List.length_append, List.length_replicate] at ht
    by_cases hta : t < args.length
    · have := hargs.2 t hta
      have e1 : (args ++ List.replicate (fn.ntmps - args.length) A.undef).getD t .undef = args.getD t .undef := by
        simp [List.getD_eq_getElem?_getD, List.getElem?_append, hta]
      have e2 : (vs.toArray ++ Array.replicate (fn.ntmps - vs.toArray.size) undef).getD t undef = vs.getD t undef := by
        simp [Array.getD_eq_getD_getElem?, List.getD_eq_getElem?_getD, Array.getElem?_append, hvl, hta]
      rw [e1, e2]; exact this
    · have e1 : (args ++ List.replicate (fn.ntmps - args.length) A.undef).getD t .undef = .undef := by
        simp only [List.getD_eq_getElem?_getD, List.getElem?_append, hta, if_false, List.getElem?_replicate]
        split <;> rfl
      rw [e1]; exact .undef _
  · rintro e a' w' ⟨ex, σ', ι', I', h1, h2, h3⟩
    have fin : retQ Tf fn.results.toList R .ret σ' → a'.defers = [] ∧ ∃ v, (results fn a'.tmps).run P w' = .ok v w' ∧
        ∃ v2 r H' ι' I', Ending.returned v = .returned v2 ∧ R r H' ∧ Rel B ι' I' w' H' ∧ RepA w' I' ι' H' v2 r ∧ Keep B w I ι H w' I' ι' H' := fun h2 => by
      obtain ⟨v, y, g1, g2, g3⟩ := wres_ok hT h3.rel h3.tm fn h2
      exact ⟨h3.defers, v, g1, v, y, σ'.hp, ι', I', rfl, g3, h3.rel, g2, h3.keep⟩
    cases h1 with
    | normal => exact fin h2
    | exit id => exact h2.elim
    | ret => exact fin h2

omit [Ops] [Lim] in
/-- out of the evaluated body, whatever the words are; R' stands for the contract's postcondition, so that evaluation leaves it closed -/
theorem VCalls_of_W {Tf : ∀ [Ops], Unit → Tab} (hT : ∀ [Ops], TabOk (Pf ()) (Tf ())) {K : FuncId} {fn : Func} (hf : (Pf ()).funcs[K]? = some fn) (hb : fn.body.isSome = true) {args : List A} {H : AHeap} {R : A → AHeap → Prop} (hl : lenL args ≤ fn.ntmps)
    (h : ∀ [Ops] (n : Nat) (R' : A → AHeap → Prop), H.length = n → (∀ r H', R r H' → R' r H') → W Pf Tf n (bodyOf fn) (retQ Tf fn.results.toList R') ⟨slots args fn.ntmps, H⟩) : VCalls (Pf ()) K args H R :=
  Ops.exists_one.elim fun inst => VCalls_of_VW (Tf := Tf) hT hf hb hl fun {_} => W_ok hT _ _ _ (h _ R rfl fun _ _ h => h)

end Go.VM

/- Using the logic: loops, what a step leaves, and how the words are read back. -/
set_option linter.unusedSimpArgs false
set_option linter.unusedVariables false
set_option linter.unusedSectionVars false
namespace Go.VM

variable [Glb] {Pf : Unit → Program} {n : Nat}

/-- are all objects below m -/
def belA (m : Nat) : A → Bool
  | .ref o _ _ _ => Nat.blt o m
  | .ptr o _ => Nat.blt o m
  | .eptr o _ _ _ => Nat.blt o m
  | .itr o => Nat.blt o m
  | .clo _ xs ys => belAs m xs && belAs m ys
  | .agg xs => belAs m xs
  | .tup xs => belAs m xs
  | _ => true
where belAs (m : Nat) : List A → Bool
  | [] => true
  | x :: r => belA m x && belAs m r

def belO (m : Nat) : AObj → Bool
  | .box cs => belA.belAs m cs
  | _ => true

def belH (m : Nat) : AHeap → Bool
  | [] => true
  | x :: r => belO m x && belH m r

def belS (σ : St) : Bool := belA.belAs (lenL σ.hp) σ.tm && belH (lenL σ.hp) σ.hp

mutual
theorem belA_ok {m : Nat} : ∀ {x : A}, belA m x = true → Bel m x
  | .d x, _ => .d x
  | .nils, _ => .nils
  | .ref o off len sz, h => .ref o off len sz (by simpa [belA] using h)
  | .ptr o off, h => .ptr o off (by simpa [belA] using h)
  | .eptr o i j len, h => .eptr o i j len (by simpa [belA] using h)
  | .iptr g i j sz, _ => .iptr g i j sz
  | .itr o, h => .itr o (by simpa [belA] using h)
  | .clo f xs ys, h => by
    simp only [belA, Bool.and_eq_true] at h
    exact .clo f xs ys (belAs_ok h.1) (belAs_ok h.2)
  | .agg xs, h => by
    simp only [belA] at h
    exact .agg xs (belAs_ok h)
  | .tup xs, h => by
    simp only [belA] at h
    exact .tup xs (belAs_ok h)
  | .undef, _ => .undef
theorem belAs_ok {m : Nat} : ∀ {xs : List A}, belA.belAs m xs = true → ∀ k, k < xs.length → Bel m (xs.getD k .undef)
  | [], _, k, hk => absurd hk (by simp)
  | x :: r, h, k, hk => by
    simp only [belA.belAs, Bool.and_eq_true] at h
    cases k with
    | zero => simpa using belA_ok h.1
    | succ k => simpa using belAs_ok h.2 k (by simpa using hk)
end

theorem belH_ok {m : Nat} : ∀ {H : AHeap}, belH m H = true → ∀ (o : Nat) (x : AObj), H[o]? = some x → BelO m x
  | [], _, o, x, h => by simp at h
  | y :: r, hb, o, x, h => by
    simp only [belH, Bool.and_eq_true] at hb
    cases o with
    | zero =>
      simp at h; subst h
      cases y <;> first | trivial | exact belAs_ok hb.1
    | succ o => exact belH_ok hb.2 o x (by simpa using h)

theorem lenL_length {α : Type} : ∀ l : List α, lenL l = l.length
  | [] => rfl
  | _ :: r => by simp [lenL, lenL_length r]

theorem belS_ok {σ : St} (h : belS σ = true) : BelS σ := by
  simp only [belS, Bool.and_eq_true, lenL_length] at h
  exact ⟨belAs_ok h.1, belH_ok h.2⟩

/-- THE LOOP: S y, the state at the loop's head, of ghosts y that are ok; m falls. -/
theorem loopV {Tf : ∀ [Ops], Unit → Tab} (hT : ∀ [Ops], TabOk (Pf ()) (Tf ())) {c : Code} {Q : Ex → St → Prop} {σ : St} {Y : Type} (S : Y → St) (m : Y → Nat) (ok : Y → Prop) (y0 : Y) (h0 : ok y0) (hle : leS n (S y0) σ) (hb : ∀ y, belS (S y) = true)
    (round : ∀ [Ops] (y : Y) (Bk : St → Prop), ok y → (∀ y' s', m y' < m y → ok y' → leS n (S y') s' → Bk s') → W Pf Tf n c (seqQ Bk Q) (S y)) : LoopVW Pf n c Q σ := by
  refine Ops.exists_one.elim fun inst => ⟨fun lim => ?_⟩
  refine VW_loop (fun k s => ∃ y, ok y ∧ m y = k ∧ s = S y) (m y0) ⟨S y0, hle, belS_ok (hb y0), y0, h0, rfl, rfl⟩ ?_
  rintro k s ⟨y, hy, rfl, rfl⟩
  refine W_ok (Tf := Tf) hT _ _ _ (round y _ hy ?_)
  intro y' s' hm hy' hle'
  exact ⟨m y', S y', hm, hle', belS_ok (hb y'), y', hy', rfl, rfl⟩

/-- slots: those listed, all others forgotten -/
def mk : Nat → List (Nat × A) → List A
  | 0, _ => []
  | n + 1, [] => .undef :: mk n []
  | n + 1, (0, a) :: r => a :: mk n (dec r)
  | n + 1, (k + 1, a) :: r => .undef :: mk n ((k, a) :: dec r)
where dec : List (Nat × A) → List (Nat × A)
  | [] => []
  | (k, a) :: r => (k - 1, a) :: dec r

theorem Deq.of_eq {x y : D} (h : x = y) : Deq x y := h ▸ .refl x
theorem leA_undef (x : A) : leA .undef x = True := rfl
theorem leL_undef (x : A) : leL .undef x = True := rfl
theorem leA_d (x y : D) : leA (.d x) (.d y) = Deq y x := rfl
theorem leL_d (x y : D) : leL (.d x) (.d y) = Deq y x := rfl
theorem exD (x y : D) : (∃ z, A.d x = A.d z ∧ Deq z y) = Deq x y := propext ⟨fun ⟨z, h1, h2⟩ => by cases h1; exact h2, fun h => ⟨x, rfl, h⟩⟩
theorem exL (xs : List A) (p : List A → Prop) : (∃ ys, A.agg xs = A.agg ys ∧ p ys) = p xs := propext ⟨fun ⟨z, h1, h2⟩ => by cases h1; exact h2, fun h => ⟨xs, rfl, h⟩⟩
theorem exT (xs : List A) (p : List A → Prop) : (∃ ys, A.tup xs = A.tup ys ∧ p ys) = p xs := propext ⟨fun ⟨z, h1, h2⟩ => by cases h1; exact h2, fun h => ⟨xs, rfl, h⟩⟩
theorem exA (n sz m sz' fz : Nat) (g : Nat → Nat → D) (p : (Nat → Nat → D) → Nat → Prop) : (∃ g' fz', AObj.arr n sz g fz = AObj.arr m sz' g' fz' ∧ p g' fz') = (n = m ∧ sz = sz' ∧ p g fz) := propext ⟨fun ⟨g', fz', h1, h2⟩ => by cases h1; exact ⟨rfl, rfl, h2⟩, fun ⟨h1, h2, h3⟩ => ⟨g, fz, by rw [h1, h2], h3⟩⟩
theorem exB (xs : List A) (p : List A → Prop) : (∃ ys, AObj.box xs = AObj.box ys ∧ p ys) = p xs := propext ⟨fun ⟨z, h1, h2⟩ => by cases h1; exact h2, fun h => ⟨xs, rfl, h⟩⟩
theorem deq_int (k k' : IntKind) (a b : Int) : Deq (.int k a) (.int k' b) = (k = k' ∧ a = b) := propext ⟨fun h => by cases h; exact ⟨rfl, rfl⟩, fun ⟨h1, h2⟩ => .of_eq (by rw [h1, h2])⟩
theorem deq_bool (a b : Bool) : Deq (.bool a) (.bool b) = (a = b) := propext ⟨fun h => by cases h; rfl, fun h => .of_eq (by rw [h])⟩
theorem deq_str (a b : ByteArray) : Deq (.str a) (.str b) = (a = b) := propext ⟨fun h => by cases h; rfl, fun h => .of_eq (by rw [h])⟩
theorem deq_refl (x : D) : Deq x x = True := propext ⟨fun _ => trivial, fun _ => .refl x⟩

end Go.VM

/- A nil slice, seen as an own slice of no elements. -/
set_option linter.unusedSimpArgs false
set_option linter.unusedVariables false
set_option linter.unusedSectionVars false
namespace Go.VM
variable [Glb]

theorem VW_ghost [Lim] {P : Program} {n : Nat} {c : Code} {Q : Ex → St → Prop} {σ : St} (d sz : Nat) (g : Nat → Nat → D) (hd : getL σ.tm d .undef = .nils)
    (h : VW P n c Q ⟨setL σ.tm d (.ref (lenL σ.hp) 0 0 sz), σ.hp ++ [.arr 0 sz g 0]⟩) : VW P n c Q σ := by
  refine Ops.exists_one.elim fun inst => ?_
  intro E ι I a w hn hi
  have gg := Goes.new (w := w) (w' := w) (fun _ _ => rfl) hi.rel.imm ι σ.hp (.arr 0 sz g 0) none
  refine h E (updι ι σ.hp.length none) I a w hn ⟨hi.defers, ⟨?_, fun t ht => ?_⟩, ?_, hi.keep.goes gg (.refl _ _)⟩
  · rw [setL_eq]
    simpa using hi.tm.1
  · rw [setL_eq] at ht ⊢
    simp only [List.length_set] at ht
    by_cases e : d = t
    · subst e
      have hv := hi.tm.2 d ht
      rw [getL_eq] at hd
      rw [hd] at hv
      generalize a.tmps.getD d undef = v at hv
      cases hv with | nils =>
      have : (σ.tm.set d (.ref (lenL σ.hp) 0 0 sz)).getD d .undef = .ref (lenL σ.hp) 0 0 sz := by simp [List.getD_eq_getElem?_getD, List.getElem?_set, ht]
      rw [this, lenL_length]
      refine .ref _ _ _ _ _ (by simp) (fun n' sz'' get'' fz' h _ => ?_) ⟨_, _, rfl⟩
      rw [List.getElem?_append_right (Nat.le_refl _)] at h
      simp at h
      obtain ⟨rfl, rfl, rfl, rfl⟩ := h
      exact ⟨by omega, fun _ => .inr (.inl ⟨by simp [updι], rfl, rfl⟩)⟩
    · have : (σ.tm.set d (.ref (lenL σ.hp) 0 0 sz)).getD t .undef = σ.tm.getD t .undef := by simp [List.getD_eq_getElem?_getD, List.getElem?_set_ne e]
      rw [this]
      exact (hi.tm.2 t ht).goes gg
  · refine hi.rel.new (Nat.le_refl _) (fun _ _ => rfl) _ _ (fun b' e => by cases e) ?_
    exact ⟨Nat.zero_le _, .inr ⟨by simp [updι], rfl⟩⟩

theorem loopGhost {Pf : Unit → Program} {n : Nat} {c : Code} {Q : Ex → St → Prop} {tm : List A} {hp : AHeap} (d sz : Nat) (hd : getL tm d .undef = .nils)
    (h : LoopVW Pf n c Q ⟨setL tm d (.ref (lenL hp) 0 0 sz), hp ++ [.arr 0 sz (fun _ _ => .nilp) 0]⟩) : LoopVW Pf n c Q ⟨tm, hp⟩ := by
  obtain ⟨h⟩ := h
  exact ⟨fun lim => VW_ghost d sz _ hd (h lim)⟩

end Go.VM

/- A function that is given data alone: its contract over no heap serves over every heap, its result frozen into data. -/
set_option linter.unusedSimpArgs false
set_option linter.unusedVariables false
set_option linter.unusedSectionVars false
namespace Go.VM
variable [Glb]

/-- what a result is, once nothing more is written -/
inductive Frz (H : AHeap) : A → A → Prop
  | d (x : D) : Frz H (.d x) (.d x)
  | nils (sz : Nat) (g : Nat → Nat → D) : Frz H .nils (.d (.sl 0 sz g))
  | ref (o off len sz n fz : Nat) (get : Nat → Nat → D) (h : H[o]? = some (.arr n sz get fz)) (e : off + len = n) : Frz H (.ref o off len sz) (.d (.sl len sz fun i j => get (off + i) j))
  | ref0 (o len sz n fz : Nat) (get : Nat → Nat → D) (h : H[o]? = some (.arr n sz get fz)) (e : len = n) : Frz H (.ref o 0 len sz) (.d (.sl len sz get))
  | agg (xs ys : List A) (hl : xs.length = ys.length) (h : ∀ k, k < xs.length → Frz H (xs.getD k .undef) (ys.getD k .undef)) : Frz H (.agg xs) (.agg ys)
  | tup (xs ys : List A) (hl : xs.length = ys.length) (h : ∀ k, k < xs.length → Frz H (xs.getD k .undef) (ys.getD k .undef)) : Frz H (.tup xs) (.tup ys)
  | un (x : A) : Frz H x .undef
  | deq (a : A) (x y : D) (h : Frz H a (.d x)) (e : Deq x y) : Frz H a (.d y)

theorem frzs_nil (H : AHeap) : ∀ k, k < ([] : List A).length → Frz H (([] : List A).getD k .undef) (([] : List A).getD k .undef) := fun k hk => absurd hk (by simp)
theorem frzs_cons {H : AHeap} {x y : A} {xs ys : List A} (h : Frz H x y) (hs : ∀ k, k < xs.length → Frz H (xs.getD k .undef) (ys.getD k .undef)) : ∀ k, k < (x :: xs).length → Frz H ((x :: xs).getD k .undef) ((y :: ys).getD k .undef) := fun k hk => by
  cases k with
  | zero => simpa using h
  | succ k => simpa using hs k (by simpa using hk)
theorem Frz.tup2 {H : AHeap} {a b a' b' : A} (h1 : Frz H a a') (h2 : Frz H b b') : Frz H (.tup [a, b]) (.tup [a', b']) := .tup _ _ rfl (frzs_cons h1 (frzs_cons h2 (frzs_nil H)))
theorem Frz.tup3 {H : AHeap} {a b c a' b' c' : A} (h1 : Frz H a a') (h2 : Frz H b b') (h3 : Frz H c c') : Frz H (.tup [a, b, c]) (.tup [a', b', c']) := .tup _ _ rfl (frzs_cons h1 (frzs_cons h2 (frzs_cons h3 (frzs_nil H))))
theorem frzsD (H : AHeap) : ∀ (xs : List D) k, k < (xs.map A.d).length → Frz H ((xs.map A.d).getD k .undef) ((xs.map A.d).getD k .undef)
  | [], k, hk => absurd hk (by simp)
  | x :: r, k, hk => frzs_cons (.d x) (frzsD H r) k hk
theorem Frz.aggD {H : AHeap} (xs : List D) : Frz H (.agg (xs.map A.d)) (.agg (xs.map A.d)) := .agg _ _ rfl (frzsD H xs)

/-- data, or data side by side -/
inductive Pure : A → Prop
  | d (x : D) : Pure (.d x)
  | agg (xs : List A) (h : ∀ k, k < xs.length → Pure (xs.getD k .undef)) : Pure (.agg xs)

def pureB : A → Bool
  | .d _ => true
  | .agg xs => pureBs xs
  | _ => false
where pureBs : List A → Bool
  | [] => true
  | .d _ :: r => pureBs r
  | _ :: _ => false

theorem pureBs_ok : ∀ {xs : List A}, pureB.pureBs xs = true → ∀ k, k < xs.length → Pure (xs.getD k .undef)
  | [], _, k, hk => absurd hk (by simp)
  | .d x :: r, h, k, hk => by
    cases k with
    | zero => exact .d x
    | succ k => simpa using pureBs_ok (xs := r) h k (by simpa using hk)

theorem pureB_ok {x : A} (h : pureB x = true) : Pure x := by
  cases x with
  | d x => exact .d x
  | agg xs => exact .agg xs (pureBs_ok h)
  | _ => cases h

def pureL : List A → Bool
  | [] => true
  | x :: r => pureB x && pureL r

theorem pureL_ok : ∀ {xs : List A}, pureL xs = true → ∀ k, k < xs.length → Pure (xs.getD k .undef)
  | [], _, k, hk => absurd hk (by simp)
  | x :: r, h, k, hk => by
    simp only [pureL, Bool.and_eq_true] at h
    cases k with
    | zero => exact pureB_ok h.1
    | succ k => simpa using pureL_ok h.2 k (by simpa using hk)

theorem Pure.rep {w : World} {I : Nat → Nat → Prop} {ι ι' : Nat → Option Nat} {H H' : AHeap} {x : A} (hx : Pure x) : ∀ {v : Value}, RepA w I ι H v x → RepA w I ι' H' v x := by
  induction hx with
  | d x => intro v h; cases h with | d _ _ h => exact .d v x h
  | agg xs _ ih =>
    intro v h
    cases h with | agg vs _ h1 h2 => exact .agg vs xs h1 fun k hk => ih k hk (h2 k hk)

theorem Frz.rep {lim : Lim} {B : Gd} {w : World} {I I' : Nat → Nat → Prop} {ι ι' : Nat → Option Nat} {H H' : AHeap} (r : Rel B ι I w H) (hi : ∀ b k, I b k → I' b k) (hn : ∀ b k, ¬ B b → b < w.heap.size → I' b k) {x y : A} (f : Frz H x y) : ∀ {v : Value}, RepA w I ι H v x → RepA w I' ι' H' v y := by
  have hs : Same I w w := fun _ _ _ => rfl
  have main : ∀ (v : Value) (o off len sz n fz : Nat) (get g : Nat → Nat → D), H[o]? = some (.arr n sz get fz) → off + len = n → (∀ i j, i < len → g i j = get (off + i) j) → RepA w I ι H v (.ref o off len sz) → RepD w I' v (.sl len sz g) := by
    intro v o off len sz n fz get g h e hg hv
    cases hv with | ref _ _ _ _ _ ho h1 hl =>
    obtain ⟨-, h2⟩ := h1 n sz get fz h rfl
    rcases h2 e with ⟨b, cap, vs, el, fr, e1, rfl, e3, e4, e5⟩ | ⟨e1, rfl, rfl⟩ | ⟨a, rfl, rfl, e3⟩
    · obtain ⟨hfz, hob⟩ := r.obj o _ h
      rcases hob with ⟨b', vs', el', fr', p1, p2, p3, p4, p5, p6⟩ | ⟨p1, p2⟩
      · have hbb : b = b' := by rw [e1] at p1; exact Option.some.inj p1
        subst hbb
        rw [e3] at p3
        cases p3
        have hlt : b < w.heap.size := (Array.getElem?_eq_some_iff.1 e3).1
        refine .sl b (off * sz) len cap sz g (fun i j => vs.getD ((off + i) * sz + j) undef) e5 (fun i j hi' hj => ⟨hn b _ p2 hlt, ?_⟩) (fun i j hi' hj => ?_)
        · have hmul : (off + i) * sz = off * sz + i * sz := Nat.add_mul ..
          have hb : (off + i + 1) * sz ≤ n * sz := Nat.mul_le_mul_right _ (by omega)
          have hb' : (off + i + 1) * sz = (off + i) * sz + sz := Nat.succ_mul ..
          have hlt' : off * sz + (i * sz + j) < vs.size := by omega
          unfold World.cell?
          simp only [e3]
          rw [show (off + i) * sz + j = off * sz + (i * sz + j) by omega]
          simp [Array.getD_eq_getD_getElem?, hlt']
        · rw [hg i j hi']
          exact (p5 (off + i) j (by omega) hj).mono hs hi
      · rw [e1] at p1; cases p1
    · exact .sl0 _ _ _ _
    · exact .sl0 _ _ _ _
  induction f with
  | d x => intro v h; cases h with | d _ _ h => exact .d v x (h.mono hs hi)
  | nils sz g => intro v h; cases h with | nils => exact .d _ _ (.sl0 _ _ _ _)
  | ref o off len sz n fz get h e => intro v hv; exact .d v _ (main v o off len sz n fz get _ h e (fun _ _ _ => rfl) hv)
  | ref0 o len sz n fz get h e => intro v hv; exact .d v _ (main v o 0 len sz n fz get _ h (by omega) (fun i j _ => by rw [Nat.zero_add]) hv)
  | agg xs ys hl _ ih =>
    intro v h
    cases h with | agg vs _ h1 h2 => exact .agg vs ys (by omega) fun k hk => ih k (by omega) (h2 k (by omega))
  | tup xs ys hl _ ih =>
    intro v h
    cases h with | tup vs _ h1 h2 => exact .tup vs ys (by omega) fun k hk => ih k (by omega) (h2 k (by omega))
  | un x => intro v _; exact .undef v
  | deq a x y _ e ih =>
    intro v hv
    cases ih hv with | d _ _ h => exact .d v y (h.deq e)

/-- THE FRAME. -/
theorem VCalls.pure {P : Program} {K : FuncId} {args : List A} {R : A → AHeap → Prop} (ha : pureL args = true) (h : VCalls P K args [] R) {R' : A → Prop} (hr : ∀ r H, R r H → ∃ y, Frz H r y ∧ R' y) (H : AHeap) : VCalls P K args H (fun r H' => H' = H ∧ R' r) := by
  refine Ops.exists_one.elim fun inst => ?_
  intro lim B ι I w vs hrel hargs
  have r0 : @Rel _ ⟨I⟩ (fun k => k < w.heap.size) (fun _ => none) I w [] := @Rel.mk _ ⟨I⟩ _ _ _ _ _ (fun _ h => h) hrel.imm (fun b k _ h => h) hrel.glob (fun o x hx => by simp at hx) (fun o o' x x' b hx => by simp at hx)
  refine (h ⟨I⟩ (fun k => k < w.heap.size) (fun _ => none) I w vs r0 ⟨hargs.1, fun k hk => (pureL_ok ha k hk).rep (hargs.2 k hk)⟩).mono ?_
  rintro e w' ⟨v, r, H', ι', I', rfl, hR, hrel', hrep, hkeep⟩
  obtain ⟨y, hf, hy⟩ := hr r H' hR
  have hlow : ∀ b k, b < w.heap.size → I' b k → I b k := @Rel.low _ ⟨I⟩ _ _ _ _ _ hrel'
  have himm := @Rel.imm _ ⟨I⟩ _ _ _ _ _ hrel'
  let J : Nat → Nat → Prop := fun b k => I b k ∨ I' b k ∨ (w.heap.size ≤ b ∧ b < w'.heap.size)
  have hblk : ∀ b, b < w.heap.size → w'.heap[b]? = w.heap[b]? := fun b hb => hkeep.below.block b hb hb
  have g : Goes w w' I J ι ι H H := by
    refine ⟨fun b k hk => ?_, fun b k h => .inl h, Nat.le_refl _, fun o off len sz v ho hx n sz' get fz h1 h2 => ⟨(hx n sz' get fz h1 h2).1, fun e => ?_⟩, fun o cs _ h hbx => ⟨⟨_, h, hbx⟩, rfl⟩, fun o n sz get fz _ h => ⟨_, _, _, h, Nat.le_refl _, fun _ => rfl⟩, fun o s p _ h => ⟨⟨_, _, h⟩, rfl⟩⟩
    · unfold World.cell?
      rw [hblk b (hrel.imm b k hk)]
    · rcases (hx n sz' get fz h1 h2).2 e with ⟨b, cap, vs, el, fr, p1, p2, p3, p4⟩ | h | h
      · exact .inl ⟨b, cap, vs, el, fr, p1, p2, (hblk b (Array.getElem?_eq_some_iff.1 p3).1).trans p3, p4⟩
      · exact .inr (.inl h)
      · exact .inr (.inr h)
  have hbelow : Below B w w' := ⟨hkeep.below.os, hkeep.below.tape, hkeep.below.output, hkeep.below.size, fun k hk _ => hblk k hk⟩
  have hrel2 : @Rel _ lim B ι J w' H := by
    refine @Rel.mk _ lim _ _ _ _ _ (fun k hk => Nat.lt_of_lt_of_le (hrel.base k hk) hbelow.size) ?_ ?_ (g.glob hrel.glob) ?_ (hrel.inj2 hblk)
    · rintro b k (h | h | h)
      · exact Nat.lt_of_lt_of_le (hrel.imm b k h) hbelow.size
      · exact himm b k h
      · exact h.2
    · rintro b k hb (h | h | h)
      · exact hrel.low b k hb h
      · exact hrel.low b k hb (hlow b k (hrel.base b hb) h)
      · exact absurd (hrel.base b hb) (by omega)
    · intro o x hx
      by_cases hl : x.live
      · refine (hrel.obj o x hx).keep g rfl (fun b hb => hblk b ((hrel.obj o x hx).lt hl hb).2) (fun b k hb hk => ?_)
        have hlt := ((hrel.obj o x hx).lt hl hb).2
        rcases hk with hk | hk | hk
        · exact hk
        · exact hlow b k hlt hk
        · omega
      · cases x <;> first | trivial | exact (hl trivial).elim
  exact ⟨v, y, H, ι, _, rfl, ⟨rfl, hy⟩, hrel2, @Frz.rep _ ⟨I⟩ _ _ _ J _ ι _ H hrel' (fun b k h => .inr (.inl h)) (fun b k h1 h2 => .inr (.inr ⟨Nat.le_of_not_lt h1, h2⟩)) _ _ hf _ hrep, hbelow, g.same, g.imm, Nat.le_refl _, fun v x hx => hx.goes g⟩

/-- the world goes on in new blocks alone -/
theorem Rel.grow {lim : Lim} {B : Gd} {ι : Nat → Option Nat} {I J : Nat → Nat → Prop} {w w' : World} {H : AHeap} (r : Rel B ι I w H) (hb : Below (fun k => k < w.heap.size) w w') (h1 : ∀ b k, I b k → J b k) (h2 : ∀ b k, b < w.heap.size → J b k → I b k) (h3 : ∀ b k, J b k → b < w'.heap.size) :
    Rel B ι J w' H ∧ Keep B w I ι H w' J ι H := by
  refine Ops.exists_one.elim fun inst => ?_
  have hblk : ∀ b, b < w.heap.size → w'.heap[b]? = w.heap[b]? := fun b hlt => hb.block b hlt hlt
  have g : Goes w w' I J ι ι H H := by
    refine ⟨fun b k hk => ?_, h1, Nat.le_refl _, fun o off len sz v ho hx n sz' get fz h1 h2 => ⟨(hx n sz' get fz h1 h2).1, fun e => ?_⟩, fun o cs _ h hbx => ⟨⟨_, h, hbx⟩, rfl⟩, fun o n sz get fz _ h => ⟨_, _, _, h, Nat.le_refl _, fun _ => rfl⟩, fun o s p _ h => ⟨⟨_, _, h⟩, rfl⟩⟩
    · unfold World.cell?
      rw [hblk b (r.imm b k hk)]
    · rcases (hx n sz' get fz h1 h2).2 e with ⟨b, cap, vs, el, fr, p1, p2, p3, p4⟩ | h | h
      · exact .inl ⟨b, cap, vs, el, fr, p1, p2, (hblk b (Array.getElem?_eq_some_iff.1 p3).1).trans p3, p4⟩
      · exact .inr (.inl h)
      · exact .inr (.inr h)
  have hbelow : Below B w w' := ⟨hb.os, hb.tape, hb.output, hb.size, fun k hk _ => hblk k hk⟩
  refine ⟨⟨fun k hk => Nat.lt_of_lt_of_le (r.base k hk) hbelow.size, h3, fun b k hb hk => r.low b k hb (h2 b k (r.base b hb) hk), g.glob r.glob, ?_, r.inj2 hblk⟩, ⟨hbelow, g.same, g.imm, Nat.le_refl _, fun v x hx => hx.goes g⟩⟩
  intro o x hx
  by_cases hl : x.live
  · exact (r.obj o x hx).keep g rfl (fun b hb => hblk b ((r.obj o x hx).lt hl hb).2) (fun b k hb hk => h2 b k ((r.obj o x hx).lt hl hb).2 hk)
  · cases x <;> first | trivial | exact (hl trivial).elim

/-- THE CONTRACT of a function of data: over every heap, it returns what S says. -/
def VFun (P : Program) (K : FuncId) (args : List A) (S : A → Prop) : Prop := ∀ H, VCalls P K args H (fun r H' => H' = H ∧ S r)

theorem VFun.call {P : Unit → Program} {K : FuncId} {args : List A} {S : A → Prop} {H : AHeap} {R : A → AHeap → Prop} (h : VFun (P ()) K args S) (hr : ∀ r, S r → R r H) : CallW P K args H R :=
  ⟨(h H).mono fun r H' ⟨e, hs⟩ => e ▸ hr r hs⟩

theorem VFun.mono {P : Program} {K : FuncId} {args : List A} {S S' : A → Prop} (h : VFun P K args S) (hr : ∀ r, S r → S' r) : VFun P K args S' :=
  fun H => (h H).mono fun _ _ ⟨e, hs⟩ => ⟨e, hr _ hs⟩

theorem CallW.of {P : Unit → Program} {K : FuncId} {args : List A} {H : AHeap} {R R' : A → AHeap → Prop} (h : VCalls (P ()) K args H R) (hr : ∀ r H', R r H' → R' r H') : CallW P K args H R' := ⟨h.mono hr⟩

/-- out of the evaluated body -/
theorem vfun {Pf : Unit → Program} {Tf : ∀ [Ops], Unit → Tab} (hT : ∀ [Ops], TabOk (Pf ()) (Tf ())) {K : FuncId} {fn : Func} (hf : (Pf ()).funcs[K]? = some fn) (hb : fn.body.isSome = true) {args : List A} (ha : pureL args = true) {S : A → Prop} (hl : lenL args ≤ fn.ntmps)
    (h : ∀ [Ops] (R : A → AHeap → Prop), (∀ r H y, Frz H r y → S y → R r H) → W Pf Tf 0 (bodyOf fn) (retQ Tf fn.results.toList R) ⟨slots args fn.ntmps, []⟩) : VFun (Pf ()) K args S :=
  fun H => VCalls.pure ha (VCalls_of_W (R := fun r H => ∃ y, Frz H r y ∧ S y) hT hf hb hl fun {_} n R hn hR => by
    cases hn
    exact h R fun r H y h1 h2 => hR r H ⟨y, h1, h2⟩) (fun r H h => h) H

end Go.VM

/- The tables: checked by a run of the kernel. -/
set_option linter.unusedSimpArgs false
set_option linter.unusedVariables false
set_option linter.unusedSectionVars false
namespace Go.VM
open Ops
variable [Ops] [Glb] [Lim]

inductive TT where
  | nil
  | node (l : TT) (v : Option TI) (r : TT)

def TT.get : Nat → TT → Nat → Option TI
  | 0, _, _ => none
  | _ + 1, .nil, _ => none
  | f + 1, .node l v r, i => match i with
    | 0 => v
    | k + 1 => match k % 2 with
      | 0 => TT.get f l (k / 2)
      | _ => TT.get f r (k / 2)

/-- equality of zero cells, as a test -/
def zeroEq : A → A → Bool
  | .d (.int k n), .d (.int k' n') => IntKind.same k k' && decide (n = n')
  | .d (.bool b), .d (.bool b') => Bool.same b b'
  | .d (.str s), .d (.str s') => decide (s.data.toList = s'.data.toList)
  | .d .nilp, .d .nilp => true
  | .d .nilf, .d .nilf => true
  | .d .nili, .d .nili => true
  | .nils, .nils => true
  | .undef, .undef => true
  | _, _ => false

theorem zeroEq_ok {a b : A} (h : zeroEq a b = true) : a = b := by
  unfold zeroEq at h
  split at h
  · rename_i k n k' n'
    simp only [Bool.and_eq_true, decide_eq_true_eq] at h
    have : k = k' := by cases k <;> cases k' <;> simp_all [IntKind.same]
    rw [this, h.2]
  · rw [Bool.same_eq] at h; simp at h; rw [h]
  · simp only [decide_eq_true_eq] at h
    rename_i s s'
    have : s = s' := by
      cases s; cases s'
      simp only at h
      congr
      exact Array.ext' h
    rw [this]
  all_goals first | rfl | cases h

def zerosEq : List A → List A → Bool
  | [], [] => true
  | a :: asx, b :: bs => zeroEq a b && zerosEq asx bs
  | _, _ => false

theorem zerosEq_ok : ∀ {asx bs : List A}, zerosEq asx bs = true → asx = bs
  | [], [], _ => rfl
  | a :: asx, b :: bs, h => by
    simp only [zerosEq, Bool.and_eq_true] at h
    rw [zeroEq_ok h.1, zerosEq_ok h.2]
  | [], _ :: _, h => by cases h
  | _ :: _, [], h => by cases h

def fsEq : List (Nat × Nat) → List (Nat × Nat) → Bool
  | [], [] => true
  | (a, b) :: r, (a', b') :: r' => Nat.beq a a' && Nat.beq b b' && fsEq r r'
  | _, _ => false

theorem fsEq_ok : ∀ {asx bs : List (Nat × Nat)}, fsEq asx bs = true → asx = bs
  | [], [], _ => rfl
  | (a, b) :: r, (a', b') :: r', h => by
    simp only [fsEq, Bool.and_eq_true, Nat.beq_eq] at h
    rw [h.1.1, h.1.2, fsEq_ok h.2]
  | [], _ :: _, h => by cases h
  | _ :: _, [], h => by cases h

def kindEq : TK → TK → Bool
  | .int k, .int k' => IntKind.same k k'
  | .bool, .bool => true
  | .string, .string => true
  | .slice e, .slice e' => Nat.beq e e'
  | .struct f, .struct f' => fsEq f f'
  | .array n e, .array n' e' => Nat.beq n n' && Nat.beq e e'
  | .pointer e, .pointer e' => Nat.beq e e'
  | .func, .func => true
  | .other, .other => true
  | _, _ => false

theorem kindEq_ok {a b : TK} (h : kindEq a b = true) : a = b := by
  unfold kindEq at h
  split at h
  · rename_i k k'
    have : k = k' := by cases k <;> cases k' <;> simp_all [IntKind.same]
    rw [this]
  · rfl
  · rfl
  · simp only [Nat.beq_eq] at h; rw [h]
  · rw [fsEq_ok h]
  · simp only [Bool.and_eq_true, Nat.beq_eq] at h; rw [h.1, h.2]
  · simp only [Nat.beq_eq] at h; rw [h]
  · rfl
  · rfl
  · cases h

def tiOk (P : Program) (t : Nat) (i : TI) : Bool :=
  match P.underlying t, P.info? t with
  | some d, some inf => kindEq (kindOf d) i.kind && Nat.beq inf.size i.size && Nat.beq inf.bytes i.bytes &&
    (match inf.zero with
    | some z => zerosEq (z.cells.toList.map absLeaf) i.zero && Nat.beq z.cells.size i.size
    | none => false)
  | _, _ => false

theorem tiOk_ok {P : Program} {t : Nat} {i : TI} (h : tiOk P t i = true) : TIOk P t i := by
  unfold tiOk at h
  split at h
  · rename_i d inf hd hi
    simp only [Bool.and_eq_true, Nat.beq_eq] at h
    obtain ⟨⟨⟨h1, h2⟩, h3⟩, h4⟩ := h
    split at h4
    · rename_i z hz
      simp only [Bool.and_eq_true, Nat.beq_eq] at h4
      exact ⟨⟨d, hd, kindEq_ok h1⟩, ⟨inf, z, hi, h2, h3, hz, zerosEq_ok h4.1, h4.2⟩⟩
    · cases h4
  · cases h

/-! ### Equality of structs of plain cells -/
def eqLeaf (x y : A) (K : Bool → Prop) : Prop :=
  match x, y with
  | .d (.int k a), .d (.int k' b) => IntKind.same k k' = true ∧ Imp (eqP a b) (K true) ∧ Imp (neP a b) (K false)
  | .d (.str a), .d (.str b) => Imp (eqSP a b) (K true) ∧ Imp (neSP a b) (K false)
  | .d (.bool a), .d (.bool b) => K (Bool.same a b)
  | _, _ => False

def andB : Bool → Bool → Bool
  | true, b => b
  | false, _ => false

theorem andB_eq (a b : Bool) : andB a b = (a && b) := by cases a <;> rfl

def eqCells : List A → List A → (A → Prop) → Prop
  | [], [], Q => Q (.d (.bool true))
  | [x], [y], Q => eqLeaf x y (fun b => Q (.d (.bool b)))
  | x :: xs, y :: ys, Q => eqLeaf x y (fun b => eqCells xs ys (fun r => match r with | .d (.bool c) => Q (.d (.bool (andB b c))) | _ => False))
  | _, _, _ => False

/-- the kind of a plain cell's type -/
inductive PK where
  | int | str | bool

def pkOf (P : Program) (t : Nat) : Option PK :=
  match P.underlying t with
  | some .bool => some .bool
  | some .string => some .str
  | some (.int _) => some .int
  | _ => none

def pkFits : PK → A → Bool
  | .int, .d (.int _ _) => true
  | .str, .d (.str _) => true
  | .bool, .d (.bool _) => true
  | _, _ => false

def pksFit : List PK → List A → Bool
  | [], [] => true
  | p :: ps, a :: asx => pkFits p a && pksFit ps asx
  | _, _ => false

def eqPlain (ps : List PK) (xs ys : List A) (Q : A → Prop) : Prop := pksFit ps xs = true ∧ pksFit ps ys = true ∧ eqCells xs ys Q

def fieldsAre (P : Program) : Nat → List Field → List PK → Bool
  | _, [], [] => true
  | n, f :: r, p :: ps => decide (f.name ≠ "_") && Nat.beq f.offset n && (match pkOf P f.type, p with | some .int, .int => true | some .str, .str => true | some .bool, .bool => true | _, _ => false) && fieldsAre P (n + 1) r ps
  | _, _, _ => false

def eqTiOk (P : Program) (t : Nat) (ps : List PK) : Bool :=
  match P.underlying t with
  | some (.struct fs) => fieldsAre P 0 fs.toList ps && !P.stoodInHeld t && !P.eqGuardType P.depth t && Nat.blt 0 ps.length
  | _ => false

theorem pk_eq {P : Program} {t : Nat} {p : PK} {x y : A} {K : Bool → Prop} (hp : (match pkOf P t, p with | some .int, .int => true | some .str, .str => true | some .bool, .bool => true | _, _ => false) = true) (hx : pkFits p x = true) (hy : pkFits p y = true) (h : eqLeaf x y K) :
    ∃ b, K b ∧ ∀ (d : Nat) (w : World) I ι H vx vy, RepA w I ι H vx x → RepA w I ι H vy y → (isAgg t).run P w = .ok false w ∧ (Op.equalIn (d + 1) t vx vy).run P w = .ok b w := by
  have hu : ∃ u, P.underlying t = some u ∧ (match u, p with | .int _, .int => true | .string, .str => true | .bool, .bool => true | _, _ => false) = true := by
    unfold pkOf at hp
    cases hq : P.underlying t with
    | none => simp [hq] at hp
    | some u =>
      rw [hq] at hp
      refine ⟨u, rfl, ?_⟩
      cases u <;> cases p <;> simp_all
  obtain ⟨u, hu, hup⟩ := hu
  unfold eqLeaf at h
  split at h
  · rename_i k a k' b
    obtain ⟨hk, h⟩ := h
    have hk : k = k' := by cases k <;> cases k' <;> simp_all [IntKind.same]
    subst hk
    cases p <;> simp [pkFits] at hx hy
    cases u <;> simp at hup
    simp only [Imp_eq, eqP_eq, neP_eq] at h
    refine ⟨decide (a = b), by by_cases e : a = b <;> simp [e, h], fun d w I ι H vx vy h1 h2 => ?_⟩
    obtain rfl := rep_int h1
    obtain rfl := rep_int h2
    refine ⟨by simp [isAgg, run_underlying hu], ?_⟩
    simp [Op.equalIn, run_underlying hu, Int.bool_eq]
  · rename_i a b
    cases p <;> simp [pkFits] at hx hy
    cases u <;> simp at hup
    simp only [Imp_eq, eqSP_eq, neSP_eq] at h
    refine ⟨decide (a = b), by by_cases e : a = b <;> simp [e, h], fun d w I ι H vx vy h1 h2 => ?_⟩
    obtain rfl := rep_str h1
    obtain rfl := rep_str h2
    refine ⟨by simp [isAgg, run_underlying hu], ?_⟩
    rw [run_equalIn_string _ _ _ _ _ hu]
    congr 1
    by_cases e : a = b
    · subst e; simp
    · have : a.toList ≠ b.toList := fun h => e (by
        rw [ByteArray.toList_eq, ByteArray.toList_eq] at h
        exact ByteArray.ext (Array.toList_inj.1 h))
      simp [e, this]
  · rename_i a b
    cases p <;> simp [pkFits] at hx hy
    cases u <;> simp at hup
    refine ⟨_, h, fun d w I ι H vx vy h1 h2 => ?_⟩
    obtain rfl := rep_bool h1
    obtain rfl := rep_bool h2
    refine ⟨by simp [isAgg, run_underlying hu], ?_⟩
    rw [Bool.same_eq]
    simp [Op.equalIn, run_underlying hu]
  · exact h.elim

theorem eqFields_ok {P : Program} : ∀ (fs : List Field) (ps : List PK) (n : Nat) (xs ys : List A) (Q : A → Prop), fieldsAre P n fs ps = true → pksFit ps xs = true → pksFit ps ys = true → eqCells xs ys Q →
    ∃ b, Q (.d (.bool b)) ∧ ∀ (d : Nat) (w : World) I ι H (vx vy : List Value), vx.length = n + xs.length → vy.length = n + ys.length → (∀ k, k < xs.length → RepA w I ι H (vx.getD (n + k) undef) (xs.getD k .undef)) → (∀ k, k < ys.length → RepA w I ι H (vy.getD (n + k) undef) (ys.getD k .undef)) →
      (Op.eqFields (d + 1) vx.toArray vy.toArray fs).run P w = .ok b w
  | [], [], n, xs, ys, Q, _, hx, hy, h => by
    cases xs <;> cases ys <;> simp [pksFit] at hx hy
    exact ⟨true, h, fun d w I ι H vx vy _ _ _ _ => by simp [Op.eqFields]⟩
  | f :: fs, p :: ps, n, xs, ys, Q, hf, hx, hy, h => by
    cases xs with
    | nil => simp [pksFit] at hx
    | cons x xs =>
    cases ys with
    | nil => simp [pksFit] at hy
    | cons y ys =>
    simp only [pksFit, Bool.and_eq_true] at hx hy
    simp only [fieldsAre, Bool.and_eq_true, decide_eq_true_eq, Nat.beq_eq] at hf
    obtain ⟨⟨⟨hn, ho⟩, hp⟩, hr⟩ := hf
    have hpart : ∀ (w : World) (vs : List Value), n < vs.length → (isAgg f.type).run P w = .ok false w → (part f.type vs.toArray f.offset).run P w = .ok (vs.getD n undef) w := fun w vs hl ha => by
      simp [part, ha, ho, List.getElem?_eq_getElem hl, List.getD_eq_getElem?_getD]
    -- the first cell, then the others
    have main : ∀ (b c : Bool) (d : Nat) (w : World) I ι H (vx vy : List Value), vx.length = n + (x :: xs).length → vy.length = n + (y :: ys).length → (∀ k, k < (x :: xs).length → RepA w I ι H (vx.getD (n + k) undef) ((x :: xs).getD k .undef)) → (∀ k, k < (y :: ys).length → RepA w I ι H (vy.getD (n + k) undef) ((y :: ys).getD k .undef)) →
        (∀ (d : Nat) (w : World) I ι H vx vy, RepA w I ι H vx x → RepA w I ι H vy y → (isAgg f.type).run P w = .ok false w ∧ (Op.equalIn (d + 1) f.type vx vy).run P w = .ok b w) →
        (Op.eqFields (d + 1) vx.toArray vy.toArray fs).run P w = .ok c w → (Op.eqFields (d + 1) vx.toArray vy.toArray (f :: fs)).run P w = .ok (b && c) w := by
      intro b c d w I ι H vx vy l1 l2 r1 r2 hb hc
      have r10 := r1 0 (by simp)
      have r20 := r2 0 (by simp)
      simp only [Nat.add_zero, List.getD_cons_zero] at r10 r20
      obtain ⟨ha, he⟩ := hb d w I ι H _ _ r10 r20
      have p1 := hpart w vx (by simp at l1; omega) ha
      have p2 := hpart w vy (by simp at l2; omega) ha
      rw [Op.eqFields]
      simp only [if_pos hn, Sem.run_bind, p1, p2, he, Result.andThen_ok]
      cases b
      · simp
      · simpa using hc
    by_cases hlast : xs = [] ∧ ys = []
    · obtain ⟨rfl, rfl⟩ := hlast
      simp only [eqCells] at h
      obtain ⟨b, hb, hbr⟩ := pk_eq hp hx.1 hy.1 h
      refine ⟨b, hb, fun d w I ι H vx vy l1 l2 r1 r2 => ?_⟩
      have hps : ps = [] := by cases ps with | nil => rfl | cons _ _ => simp [pksFit] at hx
      have hfs : fs = [] := by subst hps; cases fs with | nil => rfl | cons _ _ => simp [fieldsAre] at hr
      subst hfs
      have := main b true d w I ι H vx vy l1 l2 r1 r2 hbr (by simp [Op.eqFields])
      simpa using this
    · have h' : eqLeaf x y (fun b => eqCells xs ys (fun r => match r with | .d (.bool c) => Q (.d (.bool (andB b c))) | _ => False)) := by
        cases xs with
        | nil => cases ys with
          | nil => exact absurd ⟨rfl, rfl⟩ hlast
          | cons _ _ => exact h
        | cons _ _ => exact h
      obtain ⟨b, hb, hbr⟩ := pk_eq hp hx.1 hy.1 h'
      obtain ⟨c, hc, hcr⟩ := eqFields_ok fs ps (n + 1) xs ys _ hr hx.2 hy.2 hb
      refine ⟨b && c, by rw [← andB_eq]; exact hc, fun d w I ι H vx vy l1 l2 r1 r2 => ?_⟩
      exact main b c d w I ι H vx vy l1 l2 r1 r2 hbr (hcr d w I ι H vx vy (by simp at l1; omega) (by simp at l2; omega) (fun k hk => by
        have := r1 (k + 1) (by simpa using hk)
        simpa [show n + (k + 1) = n + 1 + k by omega] using this) (fun k hk => by
        have := r2 (k + 1) (by simpa using hk)
        simpa [show n + (k + 1) = n + 1 + k by omega] using this))
  | [], _ :: _, n, xs, ys, Q, hf, _, _, _ => by simp [fieldsAre] at hf
  | _ :: _, [], n, xs, ys, Q, hf, _, _, _ => by simp [fieldsAre] at hf

theorem eqTi_ok {P : Program} {t : Nat} {ps : List PK} (h : eqTiOk P t ps = true) : EqOk P t (eqPlain ps) := by
  unfold eqTiOk at h
  split at h
  · rename_i fs hu
    simp only [Bool.and_eq_true, Bool.not_eq_true'] at h
    obtain ⟨⟨⟨h1, h2⟩, h3⟩, h4⟩ := h
    intro xs ys Q ⟨hx, hy, hq⟩
    obtain ⟨b, hb, hbr⟩ := eqFields_ok fs.toList ps 0 xs ys Q h1 hx hy hq
    refine ⟨b, hb, fun w I ι H vx vy r1 r2 => ⟨fun op x y => run_eqGuard_agg _ op t x y vx vy h3, ?_⟩⟩
    cases r1 with | agg vs _ l1 c1 =>
    cases r2 with | agg vs' _ l2 c2 =>
    have := hbr 9998 w I ι H vs vs' (by omega) (by omega) (fun k hk => by simpa using c1 k hk) (fun k hk => by simpa using c2 k hk)
    have hf : P.fieldsOf t = fs := by simp [Program.fieldsOf, hu]
    have hrun := run_equalIn_struct (P := P) w 9999 t vs.toArray vs'.toArray (by rw [hf]; exact hu) h2
    rw [hf] at hrun
    unfold Op.equal
    exact hrun.trans this
  · cases h

theorem eqLeaf_mono {x y : A} {K K' : Bool → Prop} (hk : ∀ b, K b → K' b) (h : eqLeaf x y K) : eqLeaf x y K' := by
  unfold eqLeaf at h ⊢
  split at h
  · simp only [Imp_eq] at h ⊢
    exact ⟨h.1, fun e => hk _ (h.2.1 e), fun e => hk _ (h.2.2 e)⟩
  · simp only [Imp_eq] at h ⊢
    exact ⟨fun e => hk _ (h.1 e), fun e => hk _ (h.2 e)⟩
  · exact hk _ h
  · exact h

theorem eqCells_mono : ∀ {xs ys : List A} {Q Q' : A → Prop}, (∀ a, Q a → Q' a) → eqCells xs ys Q → eqCells xs ys Q'
  | [], [], Q, Q', hq, h => hq _ h
  | [x], [y], Q, Q', hq, h => eqLeaf_mono (K := fun b => Q (.d (.bool b))) (fun b h => hq _ h) h
  | [x], y :: y' :: ys, Q, Q', hq, h => eqLeaf_mono (K := fun b => eqCells [] (y' :: ys) _) (fun b h => eqCells_mono (fun a => by split <;> first | exact hq _ | exact id) h) h
  | x :: x' :: xs, [y], Q, Q', hq, h => eqLeaf_mono (K := fun b => eqCells (x' :: xs) [] _) (fun b h => eqCells_mono (fun a => by split <;> first | exact hq _ | exact id) h) h
  | x :: x' :: xs, y :: y' :: ys, Q, Q', hq, h => eqLeaf_mono (K := fun b => eqCells (x' :: xs) (y' :: ys) _) (fun b h => eqCells_mono (fun a => by split <;> first | exact hq _ | exact id) h) h
  | [], _ :: _, _, _, _, h => h.elim
  | [_], [], _, _, _, h => h.elim
  | _ :: _ :: _, [], _, _, _, h => h.elim

/-- one pair of cells: when they are the same -/
def leafQ (x y : A) (K : Prop → Prop) : Prop :=
  match x, y with
  | .d (.int k a), .d (.int k' b) => IntKind.same k k' = true ∧ K (eqP a b)
  | .d (.str a), .d (.str b) => K (eqSP a b)
  | .d (.bool a), .d (.bool b) => K (Bool.same a b = true)
  | _, _ => False
def cellsQ : List A → List A → (Prop → Prop) → Prop
  | [], [], K => K True
  | [x], [y], K => leafQ x y K
  | x :: xs, y :: ys, K => leafQ x y (fun p => cellsQ xs ys (fun q => K (p ∧ q)))
  | _, _, _ => False
/-- all at once: the same, or not -/
def eqCells2 (xs ys : List A) (Q : A → Prop) : Prop := cellsQ xs ys (fun p => Imp p (Q (.d (.bool true))) ∧ Imp (¬ p) (Q (.d (.bool false))))

theorem leafQ_mono {x y : A} {K K' : Prop → Prop} (hk : ∀ p, K p → K' p) (h : leafQ x y K) : leafQ x y K' := by
  unfold leafQ at h ⊢
  split at h
  · exact ⟨h.1, hk _ h.2⟩
  · exact hk _ h
  · exact hk _ h
  · exact h
theorem cellsQ_mono : ∀ {xs ys : List A} {K K' : Prop → Prop}, (∀ p, K p → K' p) → cellsQ xs ys K → cellsQ xs ys K'
  | [], [], K, K', hk, h => hk _ h
  | [x], [y], K, K', hk, h => leafQ_mono hk h
  | [x], y :: y' :: ys, K, K', hk, h => leafQ_mono (K := fun p => cellsQ [] (y' :: ys) fun q => K (p ∧ q)) (fun p hp => cellsQ_mono (fun q => hk _) hp) h
  | x :: x' :: xs, [y], K, K', hk, h => leafQ_mono (K := fun p => cellsQ (x' :: xs) [] fun q => K (p ∧ q)) (fun p hp => cellsQ_mono (fun q => hk _) hp) h
  | x :: x' :: xs, y :: y' :: ys, K, K', hk, h => leafQ_mono (K := fun p => cellsQ (x' :: xs) (y' :: ys) fun q => K (p ∧ q)) (fun p hp => cellsQ_mono (fun q => hk _) hp) h
  | [], _ :: _, _, _, _, h => h.elim
  | [_], [], _, _, _, h => h.elim
  | _ :: _ :: _, [], _, _, _, h => h.elim
theorem eqCells2_mono {xs ys : List A} {Q Q' : A → Prop} (hq : ∀ a, Q a → Q' a) (h : eqCells2 xs ys Q) : eqCells2 xs ys Q' :=
  cellsQ_mono (fun p hp => by
    simp only [Imp_eq] at hp ⊢
    exact ⟨fun e => hq _ (hp.1 e), fun e => hq _ (hp.2 e)⟩) h
theorem leafQ_old {x y : A} {K : Prop → Prop} {K' : Bool → Prop} (h : leafQ x y K) (h1 : ∀ p, K p → (p → K' true) ∧ (¬ p → K' false)) : eqLeaf x y K' := by
  unfold leafQ at h
  unfold eqLeaf
  split at h
  · have := h1 _ h.2
    simp only [Imp_eq, eqP_eq, neP_eq] at this ⊢
    exact ⟨h.1, this.1, this.2⟩
  · have := h1 _ h
    simp only [Imp_eq, eqSP_eq, neSP_eq] at this ⊢
    exact ⟨this.1, this.2⟩
  · have := h1 _ h
    rename_i a b
    show K' (Bool.same a b)
    cases hb : Bool.same a b with
    | true => exact this.1 hb
    | false => exact this.2 (by simp [hb])
  · exact h
theorem cellsQ_old : ∀ {xs ys : List A} {K : Prop → Prop} {Q : A → Prop}, (∀ p, K p → (p → Q (.d (.bool true))) ∧ (¬ p → Q (.d (.bool false)))) → cellsQ xs ys K → eqCells xs ys Q
  | [], [], K, Q, hk, h => (hk _ h).1 trivial
  | [x], [y], K, Q, hk, h => leafQ_old (K' := fun b => Q (.d (.bool b))) h hk
  | [x], y :: y' :: ys, K, Q, hk, h => by
    have h : leafQ x y (fun p => cellsQ [] (y' :: ys) fun q => K (p ∧ q)) := h
    exact leafQ_old (K' := fun b => eqCells [] (y' :: ys) _) h (fun p hp => hp.elim)
  | x :: x' :: xs, [y], K, Q, hk, h => by
    have h : leafQ x y (fun p => cellsQ (x' :: xs) [] fun q => K (p ∧ q)) := h
    refine leafQ_old (K' := fun b => eqCells (x' :: xs) [] _) h (fun p hp => ?_)
    cases xs with
    | nil => exact hp.elim
    | cons a b => exact hp.elim
  | x :: x' :: xs, y :: y' :: ys, K, Q, hk, h => by
    have h : leafQ x y (fun p => cellsQ (x' :: xs) (y' :: ys) fun q => K (p ∧ q)) := h
    refine leafQ_old (K' := fun b => eqCells (x' :: xs) (y' :: ys) (fun r => match r with | .d (.bool c) => Q (.d (.bool (andB b c))) | _ => False)) h (fun p hp => ⟨fun e => ?_, fun e => ?_⟩)
    · refine cellsQ_old (K := fun q => K (p ∧ q)) (fun q hq => ⟨fun e2 => (hk _ hq).1 ⟨e, e2⟩, fun e2 => (hk _ hq).2 (fun h3 => e2 h3.2)⟩) hp
    · refine cellsQ_old (K := fun q => K (p ∧ q)) (fun q hq => ⟨fun e2 => (hk _ hq).2 (fun h3 => e h3.1), fun e2 => (hk _ hq).2 (fun h3 => e h3.1)⟩) hp
  | [], _ :: _, _, _, _, h => h.elim
  | [_], [], _, _, _, h => h.elim
  | _ :: _ :: _, [], _, _, _, h => h.elim
def eqPlain2 (ps : List PK) (xs ys : List A) (Q : A → Prop) : Prop := pksFit ps xs = true ∧ pksFit ps ys = true ∧ eqCells2 xs ys Q
theorem eqPlain2_old {ps : List PK} {xs ys : List A} {Q : A → Prop} (h : eqPlain2 ps xs ys Q) : eqPlain ps xs ys Q :=
  ⟨h.1, h.2.1, cellsQ_old (fun p hp => by simpa only [Imp_eq] using hp) h.2.2⟩

/-! ### The table -/
structure Tables where
  tree : TT
  n : Nat
  eqs : List (Nat × List PK)
  m : Nat
  bare : List Nat
  bld : Nat := 1000000

def findEq : List (Nat × List PK) → Nat → Option (List PK)
  | [], _ => none
  | (t, ps) :: r, k => match Nat.beq t k with
    | true => some ps
    | false => findEq r k

def hasN : List Nat → Nat → Bool
  | [], _ => false
  | a :: r, k => match Nat.beq a k with
    | true => true
    | false => hasN r k

def Tables.tab (S : Tables) : Tab where
  bld := S.bld
  fz := fun _ => false
  ti t := match Nat.blt t S.n with
    | true => S.tree.get 20 t
    | false => none
  eq t := match findEq S.eqs t with
    | some ps => some (eqPlain2 ps)
    | none => none
  fn f := Nat.blt f S.m && !hasN S.bare f

def fnOk (P : Program) (f : Nat) : Bool :=
  match P.funcs[f]? with
  | some fn => !fn.body.isNone && !(fn.name == "runtime.NumGoroutine")
  | none => false

def Tables.ok (S : Tables) (P : Program) : Bool :=
  ((List.range S.n).all fun t => match S.tree.get 20 t with
    | some i => tiOk P t i
    | none => true) &&
  (S.eqs.all fun (t, ps) => eqTiOk P t ps) &&
  ((List.range S.m).all fun f => hasN S.bare f || fnOk P f) && P.follows .mixedOrders

theorem findEq_mem : ∀ {l : List (Nat × List PK)} {t : Nat} {ps : List PK}, findEq l t = some ps → (t, ps) ∈ l
  | [], _, _, h => by cases h
  | (a, qs) :: r, t, ps, h => by
    simp only [findEq] at h
    split at h
    · rename_i e
      cases h
      rw [Nat.beq_eq] at e
      subst e
      exact List.mem_cons_self
    · exact List.mem_cons_of_mem _ (findEq_mem h)

theorem Tables.tabOk0 {S : Tables} {P : Program} (h : S.ok P = true) (hb : S.bld = Glb.bt) : TabOk P S.tab := by
  simp only [Tables.ok, Bool.and_eq_true, List.all_eq_true, List.mem_range] at h
  obtain ⟨⟨⟨h1, h2⟩, h3⟩, hm⟩ := h
  refine ⟨fun t i hi => ?_, fun t e he => ?_, fun f hf => ?_, hm, hb, fun t e xs ys Q Q' he hq h => ?_⟩
  · simp only [Tables.tab] at hi
    split at hi
    · rename_i hlt
      rw [Nat.blt_eq] at hlt
      have := h1 t hlt
      rw [hi] at this
      exact tiOk_ok this
    · cases hi
  · simp only [Tables.tab] at he
    split at he
    · rename_i ps hps
      cases he
      exact fun xs ys Q hq => eqTi_ok (h2 _ (findEq_mem hps)) xs ys Q (eqPlain2_old hq)
    · cases he
  · simp only [Tables.tab, Bool.and_eq_true, Nat.blt_eq, Bool.not_eq_true'] at hf
    have := h3 f hf.1
    rw [hf.2, Bool.false_or] at this
    unfold fnOk at this
    split at this
    · rename_i fn hfn
      simp only [Bool.and_eq_true, Bool.not_eq_true'] at this
      exact ⟨fn, hfn, this.1, this.2⟩
    · cases this
  · simp only [Tables.tab] at he
    split at he
    · cases he
      exact ⟨h.1, h.2.1, eqCells2_mono hq h.2.2⟩
    · cases he

omit [Lim] in
theorem Tables.tabOk {S : Tables} {P : Program} (h : S.ok P = true) (hb : S.bld = Glb.bt) : TabOk P S.tab :=
  let _ : Lim := ⟨fun _ _ => True⟩
  Tables.tabOk0 h hb

end Go.VM

/- The words, read back: numbers that fit, bytes, runes. -/
set_option linter.unusedSimpArgs false
set_option linter.unusedVariables false
namespace Go.VM

theorem nc (n : Nat) : @NatCast.natCast Int instNatCastInt n = @Nat.cast Int instNatCastInt n := rfl
theorem nc' (n : Nat) : Int.ofNat n = @Nat.cast Int instNatCastInt n := rfl

theorem w64 {x : Int} (h1 : -9223372036854775808 ≤ x) (h2 : x ≤ 9223372036854775807) : IntKind.i64.wrap x = x := by
  simp only [IntKind.wrap, IntKind.bits, IntKind.signed]
  simp
  omega
theorem w32 {x : Int} (h1 : -2147483648 ≤ x) (h2 : x ≤ 2147483647) : IntKind.i32.wrap x = x := by
  simp only [IntKind.wrap, IntKind.bits, IntKind.signed]
  simp
  omega
theorem wu8 {x : Int} (h1 : 0 ≤ x) (h2 : x ≤ 255) : IntKind.u8.wrap x = x := by
  simp only [IntKind.wrap, IntKind.bits, IntKind.signed]
  simp
  omega
theorem wu32 {x : Int} (h1 : 0 ≤ x) (h2 : x ≤ 4294967295) : IntKind.u32.wrap x = x := by
  simp only [IntKind.wrap, IntKind.bits, IntKind.signed]
  simp
  omega

theorem btF_lo (s : ByteArray) (i : Int) : 0 ≤ btF s i := Int.natCast_nonneg _
theorem btF_hi (s : ByteArray) (i : Int) : btF s i ≤ 255 := by
  have := (s.data.toList.getD i.toNat 0).toNat_lt
  unfold btF
  omega

theorem btF_get (s : ByteArray) (i : Nat) (h : i < s.size) : btF s i = (s[i]'h).toNat := by
  have hd : i < s.data.toList.length := by simpa using h
  unfold btF
  rw [Int.toNat_natCast, List.getD_eq_getElem?_getD, List.getElem?_eq_getElem hd]
  simp [ByteArray.getElem_eq_getElem_data]

/-- a rune at a byte below 128 -/
theorem rune_low (s : ByteArray) (i : Nat) (h : i < s.size) (ha : btF s i < 128) : runeF s i = btF s i ∧ widthF s i = 1 := by
  rw [btF_get s i h] at *
  unfold runeF widthF
  rw [decode_ascii s i h (by omega)]
  simp
/-- a rune at a byte from 128 on -/
theorem rune_high (s : ByteArray) (i : Nat) (h : i < s.size) (ha : 128 ≤ btF s i) : 128 ≤ runeF s i ∧ 1 ≤ widthF s i := by
  rw [btF_get s i h] at ha
  unfold runeF widthF
  have := decode_high s i h (by omega)
  omega

theorem rune_p (q : Int → Bool) (hq : ∀ c, 128 ≤ c → q c = false) (t : ByteArray) (p : Nat) (h : p < t.size) : q (runeF t p) = q (btF t p) ∧ (q (btF t p) = true → widthF t p = 1 ∧ runeF t p = btF t p) := by
  by_cases ha : btF t p < 128
  · obtain ⟨h1, h2⟩ := rune_low t p h ha
    exact ⟨by rw [h1], fun _ => ⟨h2, h1⟩⟩
  · obtain ⟨h1, h2⟩ := rune_high t p h (by omega)
    have := hq _ (show 128 ≤ btF t p by omega)
    exact ⟨by rw [hq _ h1, this], fun h => by rw [this] at h; cases h⟩

end Go.VM

/- The same weakest precondition with the rest of the body as a list: no term is met twice. -/
set_option linter.unusedSimpArgs false
set_option linter.unusedVariables false
set_option linter.unusedSectionVars false
namespace Go.VM
open Ops

inductive Fr | seq (b : Code) | block (id : Nat)

/-- evaluation stops here -/
inductive Later (p : Unit → Prop) : Prop | mk (h : p ())

def popK (run : Code → List Fr → St → Prop) (Q : Ex → St → Prop) : List Fr → Ex → St → Prop
  | [], e, σ => Q e σ
  | .seq b :: K, e, σ => match e with
    | .normal => run b K σ
    | .exit i => popK run Q K (.exit i) σ
    | .ret => popK run Q K .ret σ
  | .block id :: K, e, σ => match e with
    | .normal => popK run Q K .normal σ
    | .exit i => (match Nat.beq i id with
      | true => popK run Q K .normal σ
      | false => popK run Q K (.exit i) σ)
    | .ret => popK run Q K .ret σ

variable [Ops] [Glb] [Lim]

def Wk (P : Unit → Program) (T : Unit → Tab) (n : Nat) (Q : Ex → St → Prop) : Nat → Code → List Fr → St → Prop
  | 0, _, _, _ => False
  | f + 1, c, K, σ => match c with
    | .skip => popK (Wk P T n Q f) Q K .normal σ
    | .region id ops draw => match draw with
      | false => wops P T ops.toList ops.toList σ (popK (Wk P T n Q f) Q K .normal)
      | true => wdraw P T ops.toList (lenL ops.toList) (noneL ops.toList) σ (popK (Wk P T n Q f) Q K .normal)
    | .seq a b => Wk P T n Q f a (.seq b :: K) σ
    | .cond c a b => match ev σ.tm c with
      | .d (.bool t) => Later (fun _ => match t with
        | true => Wk P T n Q f a K σ
        | false => Wk P T n Q f b K σ)
      | _ => False
    | .block id b => Wk P T n Q f b (.block id :: K) σ
    | .loop b => LoopVW P n b (popK (Wk P T n Q f) Q K) σ
    | .exit id => popK (Wk P T n Q f) Q K (.exit id) σ
    | .ret => popK (Wk P T n Q f) Q K .ret σ
    | _ => False

variable {P : Program} {T : Tab} {Pf : Unit → Program} {Tf : Unit → Tab} {n : Nat}

def kQ (P : Program) (n : Nat) (Q : Ex → St → Prop) : List Fr → Ex → St → Prop
  | [] => Q
  | .seq b :: K => seqQ (VW P n b (kQ P n Q K)) (kQ P n Q K)
  | .block i :: K => blockQ i (kQ P n Q K)

omit [Glb] in
theorem popK_ok {Q : Ex → St → Prop} {run : Code → List Fr → St → Prop} [Glb] (h : ∀ c K σ, run c K σ → VW P n c (kQ P n Q K) σ) : ∀ (K : List Fr) (e : Ex) (σ : St), popK run Q K e σ → kQ P n Q K e σ
  | [], e, σ, hp => hp
  | .seq b :: K, e, σ, hp => by
    cases e with
    | normal => exact h b K σ hp
    | exit i => exact popK_ok h K _ σ hp
    | ret => exact popK_ok h K _ σ hp
  | .block id :: K, e, σ, hp => by
    cases e with
    | normal => exact popK_ok h K .normal σ hp
    | exit i =>
      simp only [popK] at hp
      show (match Nat.beq i id with | true => kQ P n Q K .normal σ | false => kQ P n Q K (.exit i) σ)
      split at hp
      · exact popK_ok h K _ σ hp
      · exact popK_ok h K _ σ hp
    | ret => exact popK_ok h K .ret σ hp

theorem Wk_ok (hT : TabOk (Pf ()) (Tf ())) (Q : Ex → St → Prop) : ∀ (f : Nat) (c : Code) (K : List Fr) (σ : St), Wk Pf Tf n Q f c K σ → VW (Pf ()) n c (kQ (Pf ()) n Q K) σ
  | 0, c, K, σ, h => h.elim
  | f + 1, c, K, σ, h => by
    have ih := Wk_ok hT Q f
    have pop := popK_ok ih K
    cases c with
    | skip => exact VW_skip (pop _ _ h)
    | region id ops draw =>
      have h2 : W Pf Tf n (.region id ops draw) (popK (Wk Pf Tf n Q f) Q K) σ := by
        cases draw <;> exact h
      exact (W_ok hT _ _ _ h2).mono fun e s => pop e s
    | seq a b => exact VW_seq (ih a _ σ h)
    | cond c a b =>
      simp only [Wk] at h
      split at h
      · rename_i t ht
        obtain ⟨h⟩ := h
        cases t with
        | true => exact VW_cond ht (fun e => ih a _ σ h) (fun e => by cases e)
        | false => exact VW_cond ht (fun e => by cases e) (fun e => ih b _ σ h)
      · exact h.elim
    | block id b => exact VW_block (ih b _ σ h)
    | loop b =>
      have h : LoopVW Pf n b (popK (Wk Pf Tf n Q f) Q K) σ := h
      rw [LoopVW_eq] at h
      exact (h inferInstance).mono fun e s => pop e s
    | exit id => exact VW_exit (pop _ _ h)
    | ret => exact VW_ret (pop _ _ h)
    | rangeFunc => exact h.elim
    | scope => exact h.elim
    | label => exact h.elim
    | goto => exact h.elim
    | refuse => exact h.elim

omit [Ops] [Lim] in
/-- out of the evaluated body -/
theorem VCalls_of_Wk {Tf : ∀ [Ops], Unit → Tab} (hT : ∀ [Ops], TabOk (Pf ()) (Tf ())) (f : Nat) {K : FuncId} {fn : Func} (hf : (Pf ()).funcs[K]? = some fn) (hb : fn.body.isSome = true) {args : List A} {H : AHeap} {R : A → AHeap → Prop} (hl : lenL args ≤ fn.ntmps)
    (h : ∀ [Ops] (n : Nat) (R' : A → AHeap → Prop), H.length = n → (∀ r H', R r H' → R' r H') → Wk Pf Tf n (retQ Tf fn.results.toList R') f (bodyOf fn) [] ⟨slots args fn.ntmps, H⟩) : VCalls (Pf ()) K args H R :=
  Ops.exists_one.elim fun inst => VCalls_of_VW (Tf := Tf) hT hf hb hl fun {_} => Wk_ok hT _ f _ [] _ (h _ R rfl fun _ _ h => h)

omit [Ops] [Lim] in
theorem vfunK {Pf : Unit → Program} {Tf : ∀ [Ops], Unit → Tab} (hT : ∀ [Ops], TabOk (Pf ()) (Tf ())) (f : Nat) {K : FuncId} {fn : Func} (hf : (Pf ()).funcs[K]? = some fn) (hb : fn.body.isSome = true) {args : List A} (ha : pureL args = true) {S : A → Prop} (hl : lenL args ≤ fn.ntmps)
    (h : ∀ [Ops] (R : A → AHeap → Prop), (∀ r H y, Frz H r y → S y → R r H) → Wk Pf Tf 0 (retQ Tf fn.results.toList R) f (bodyOf fn) [] ⟨slots args fn.ntmps, []⟩) : VFun (Pf ()) K args S :=
  fun H => VCalls.pure ha (VCalls_of_Wk (R := fun r H => ∃ y, Frz H r y ∧ S y) hT f hf hb hl fun {_} n R hn hR => by
    cases hn
    exact h R fun r H y h1 h2 => hR r H ⟨y, h1, h2⟩) (fun r H h => h) H

omit [Ops] [Lim] in
theorem loopK {Tf : ∀ [Ops], Unit → Tab} (hT : ∀ [Ops], TabOk (Pf ()) (Tf ())) (f : Nat) {c : Code} {Q : Ex → St → Prop} {σ : St} {Y : Type} (S : Y → St) (m : Y → Nat) (ok : Y → Prop) (y0 : Y) (h0 : ok y0) (hle : leS n (S y0) σ) (hb : ∀ y, belS (S y) = true)
    (round : ∀ [Ops] (y : Y) (Bk : St → Prop), ok y → (∀ y' s', m y' < m y → ok y' → leS n (S y') s' → Bk s') → Wk Pf Tf n (seqQ Bk Q) f c [] (S y)) : LoopVW Pf n c Q σ := by
  refine Ops.exists_one.elim fun inst => ⟨fun lim => ?_⟩
  refine VW_loop (fun k s => ∃ y, ok y ∧ m y = k ∧ s = S y) (m y0) ⟨S y0, hle, belS_ok (hb y0), y0, h0, rfl, rfl⟩ ?_
  rintro k s ⟨y, hy, rfl, rfl⟩
  refine Wk_ok (Tf := Tf) hT _ f _ [] _ (round y _ hy ?_)
  intro y' s' hm hy' hle'
  exact ⟨m y', S y', hm, hle', belS_ok (hb y'), y', hy', rfl, rfl⟩
end Go.VM

/- THE WRAP: a law of data arguments that returns true, as a row's statement wants it. -/
set_option linter.unusedSimpArgs false
set_option linter.unusedVariables false
namespace Go.VM
open Go Go.ChangeShapes Go.WideShapes Go.ChangeAt Go.RowKit

theorem trodAll_below {H : Type} {enc : TypeId × Value → H} {P : Program} (hl : laidOutB P = true) {W W' : World} (hb : Go.RowKit.Below W.heap.size W W') : ∀ (ts : List TypeId) (vs : List Value) (ds : List (DataW H)) (ps : List MemPlace),
    (∀ t ∈ ts, P.readableRec t = true ∧ t < P.types.size) → (∀ x ∈ ps, x.block < W.heap.size) → DataW.TrodAll enc P W 0 (fun _ => true) true ts vs ds ps → DataW.TrodAll enc P W' 0 (fun b => decide (b < W.heap.size)) true ts vs ds ps
  | [], vs, ds, ps, _, _, h => by
    obtain ⟨rfl, rfl, rfl⟩ := trodAll_nil h
    exact trodAll_mk0
  | t :: ts, vs, ds, ps, hr, hp, h => by
    obtain ⟨v, vs', d, ds', p, q, rfl, rfl, rfl, hd, hrest⟩ := trodAll_cons h
    exact ⟨p, q, Go.RowKit.Below.trod hl (hr t (by simp)).1 (hr t (by simp)).2 hd hb (fun x hx => hp x (by simp [hx])), trodAll_below hl hb ts vs' ds' q (fun t ht => hr t (by simp [ht])) (fun x hx => hp x (by simp [hx])) hrest, rfl⟩

theorem wit_of {H : Type} {enc : TypeId × Value → H} {C : Checked} {os : Os} {f : FuncId} {fn : Func} {s : OpenSpec} {laid : List (String × DataW Unit)} (w0 : World) (args : Array Value) (hos : w0.os = os)
    (hsh : (w0.forCall (fun _ _ => 0) ⟨#[], args, []⟩).Shaped C.prog)
    (hok : Input.okWideB C.prog (w0.forCall (fun _ _ => 0) ⟨#[], args, []⟩) f ⟨#[], args, []⟩ = true)
    (hrow : s.preRow enc C.prog fn [] false laid (w0.forCall (fun _ _ => 0) ⟨#[], args, []⟩).memory args) :
    ∃ (w : World) (tape : Tape) (i : Input), w.os = os ∧ (w.forCall tape i).Shaped C.prog ∧ i.vars = [] ∧ Input.okWide C.prog (w.forCall tape i) .any w.heap.size f i ∧
      s.preRow enc C.prog fn [] false laid (w.forCall tape i).memory i.args ∧ ({} : Assume).holds C.prog (lone (Frame.enter C.prog f i.args .normal) [] (w.forCall tape i)) :=
  ⟨w0, fun _ _ => 0, ⟨#[], args, []⟩, hos, hsh, (Input.okWide_of_okWideB (base := 0) hok).1, (Input.okWide_of_okWideB hok).2, hrow, by
    simp only [Assume.holds]
    exact ⟨by simp, by simp, fun h => (by cases h), by simp, by simp⟩⟩

variable [Glb]

theorem law_lifted2 {C : Checked} {os : Os} {f : FuncId} {fn : Func} {s : ChangeSpec} {laid : List (String × DataW Unit)} {tb : TypeId} (H : Type) (enc : TypeId × Value → H) (F : Stop.Interp)
    (own : ownKnob C.prog.godebug = none) (started : os.Started) (noInit : C.prog.inits.idxOf? f = none) (hfn : C.prog.funcs[f]? = some fn)
    (hvars : s.vars = []) (hrt : fn.resultTypes = #[tb]) (hb : C.prog.underlying tb = some .bool)
    (hsp : ∀ ds : List (DataW H), ds.length = fn.params.size → s.fn H ds = { results := [.lit (.bool true)], args := ds })
    (hlo : laidOutB C.prog = true) (hrd : ∀ t ∈ fn.params.toList, C.prog.readableRec t = true ∧ t < C.prog.types.size)
    (witness : ∃ (w : World) (tape : Tape) (i : Input), w.os = os ∧ (w.forCall tape i).Shaped C.prog ∧ i.vars = [] ∧ Input.okWide C.prog (w.forCall tape i) .any w.heap.size f i ∧
      (OpenSpec.ofChange s).preRow enc C.prog fn [] false laid (w.forCall tape i).memory i.args ∧ ({} : Assume).holds C.prog (lone (Frame.enter C.prog f i.args .normal) [] (w.forCall tape i)))
    (hglob : ∀ W : World, laidMetH C.prog laid W → W.ShapedOpen C.prog → ∀ b k v, Glb.G b k v → b < W.heap.size ∧ W.cell? ⟨b, k, none⟩ = v)
    (law : ∀ (W : World) (base : Nat) (args : Array Value) (ds : List (DataW H)) (p : List MemPlace), (∀ (j : Nat) t v, fn.params[j]? = some t → args[j]? = some v → Value.okWide C.prog W .any base t v) →
      DataW.TrodAll enc C.prog W 0 (fun _ => true) true fn.params.toList args.toList ds p →
      ∃ xs : List A, VFun C.prog f xs (fun r => r = .d (.bool true)) ∧ args.toList.length = xs.length ∧ ∀ k, k < xs.length → RepA W (fun b _ => b < W.heap.size) (fun _ => none) [] (args.toList.getD k undef) (xs.getD k .undef)) :
    ReturnsInHanded {} C os f .any ((OpenSpec.ofChange s).preRow enc C.prog fn [] false laid) (((OpenSpec.ofChange s).at F).post enc C.prog fn false true false false) := by
  refine returnsInHanded_of_row (C := C) (s := OpenSpec.ofChange s) own started noInit hfn witness ?_
  intro W base args ds gs before hval hW _ _ _ hL hsh _
  have hW' := hW
  obtain ⟨p, q, hA, hV, rfl, _, _⟩ := hW
  have hV2 : DataW.TrodVars enc C.prog W (fun _ => true) [] gs q := by rw [← hvars]; exact hV
  obtain ⟨rfl, rfl⟩ := trodVars_none hV2
  obtain ⟨xs, hf, hlen, hrep⟩ := law W base args ds p hval hA
  have hdl : ds.length = fn.params.size := by
    have : ∀ (ts : List TypeId) (vs : List Value) (ds : List (DataW H)) (ps : List MemPlace), DataW.TrodAll enc C.prog W 0 (fun _ => true) true ts vs ds ps → ds.length = ts.length := by
      intro ts
      induction ts with
      | nil =>
        intro vs ds ps h
        obtain ⟨rfl, rfl, rfl⟩ := trodAll_nil h
        rfl
      | cons t ts ih =>
        intro vs ds ps h
        obtain ⟨v, vs', d, ds', p, q, rfl, rfl, rfl, hd, hrest⟩ := trodAll_cons h
        simp [ih _ _ _ hrest]
    simpa using this _ _ _ _ hA
  letI lim : Lim := ⟨fun _ _ => True⟩
  have hrel : Rel (fun k => k < W.heap.size) (fun _ => none) (fun b _ => b < W.heap.size) W [] :=
    ⟨fun _ h => h, fun b k h => h, fun b k h _ => trivial, fun b k v h => hglob W hL hsh b k v h, fun o x h => by simp at h, fun o o' x x' b h => by simp at h⟩
  have hargs : RepL W (fun b _ => b < W.heap.size) (fun _ => none) [] args.toList xs := ⟨hlen, hrep⟩
  have hc := hf [] lim _ _ _ _ _ hrel hargs
  refine hc.mono ?_
  rintro e W' ⟨v, r, H', ι', I', rfl, ⟨rfl, rfl⟩, hrel', hr, hk⟩
  have hv : v = .bool true := by
    cases hr with | d _ _ h => cases h; rfl
  subst hv
  have hbel : Go.RowKit.Below W.heap.size W W' := ⟨hk.below.os, hk.below.tape, hk.below.output, hk.below.size, fun k hk2 => hk.below.block k hk2 hk2⟩
  have e1 : (s.fn H (ds ++ [])) = { results := [.lit (.bool true)], args := ds } := by rw [List.append_nil]; exact hsp ds hdl
  have e2 : ((OpenSpec.ofChange s).at F).fn H (ds ++ []) = { results := [.lit (.bool true)], args := ds } := e1
  simp only [List.append_nil] at hW' 
  refine ⟨_, rfl, ds, [], p, [], p, [], hW', ?_, ?_, ?_, hbel.frame _, fun h => by cases h⟩
  · rw [e2, hrt]
    exact trodAll_mk1 ⟨1, by simp [DataW.trod, Value.cells, hb]⟩
  · rw [e2]
    exact trodAll_below hlo hbel _ _ _ _ hrd (fun x hx => by simpa using hW'.lt x hx) hA
  · rw [e2]
    show DataW.TrodVars enc C.prog W' _ s.vars [] []
    rw [hvars]
    rfl
theorem law_lifted {C : Checked} {os : Os} {f : FuncId} {fn : Func} {s : ChangeSpec} {laid : List (String × DataW Unit)} {tb : TypeId} (H : Type) (enc : TypeId × Value → H) (F : Stop.Interp)
    (own : ownKnob C.prog.godebug = none) (started : os.Started) (noInit : C.prog.inits.idxOf? f = none) (hfn : C.prog.funcs[f]? = some fn)
    (hvars : s.vars = []) (hrt : fn.resultTypes = #[tb]) (hb : C.prog.underlying tb = some .bool)
    (hsp : ∀ ds : List (DataW H), ds.length = fn.params.size → s.fn H ds = { results := [.lit (.bool true)], args := ds })
    (hlo : laidOutB C.prog = true) (hrd : ∀ t ∈ fn.params.toList, C.prog.readableRec t = true ∧ t < C.prog.types.size)
    (witness : ∃ (w : World) (tape : Tape) (i : Input), w.os = os ∧ (w.forCall tape i).Shaped C.prog ∧ i.vars = [] ∧ Input.okWide C.prog (w.forCall tape i) .any w.heap.size f i ∧
      (OpenSpec.ofChange s).preRow enc C.prog fn [] false laid (w.forCall tape i).memory i.args ∧ ({} : Assume).holds C.prog (lone (Frame.enter C.prog f i.args .normal) [] (w.forCall tape i)))
    (hglob : ∀ W : World, laidMetH C.prog laid W → W.ShapedOpen C.prog → ∀ b k v, Glb.G b k v → b < W.heap.size ∧ W.cell? ⟨b, k, none⟩ = v)
    (law : ∀ (W : World) (base : Nat) (args : Array Value) (ds : List (DataW H)) (p : List MemPlace), (∀ (j : Nat) t v, fn.params[j]? = some t → args[j]? = some v → Value.okWide C.prog W .any base t v) →
      DataW.TrodAll enc C.prog W 0 (fun _ => true) true fn.params.toList args.toList ds p →
      ∃ xs : List D, VFun C.prog f (xs.map .d) (fun r => r = .d (.bool true)) ∧ args.toList.length = xs.length ∧ ∀ k, k < xs.length → RepD W (fun b _ => b < W.heap.size) (args.toList.getD k undef) (xs.getD k .nilp)) :
    ReturnsInHanded {} C os f .any ((OpenSpec.ofChange s).preRow enc C.prog fn [] false laid) (((OpenSpec.ofChange s).at F).post enc C.prog fn false true false false) := by
  refine law_lifted2 H enc F own started noInit hfn hvars hrt hb hsp hlo hrd witness hglob fun W base args ds p hval hA => ?_
  obtain ⟨xs, h1, h2, h3⟩ := law W base args ds p hval hA
  refine ⟨xs.map .d, h1, by simpa using h2, fun k hk => ?_⟩
  have hk2 : k < xs.length := by simpa using hk
  have e : (xs.map A.d).getD k .undef = .d (xs.getD k .nilp) := by
    simp [List.getD_eq_getElem?_getD, hk2]
  rw [e]
  exact .d _ _ (h3 k hk2)
end Go.VM

/- The frame with objects: a contract over some objects serves over every heap that has them, wherever they stand. -/
set_option linter.unusedSimpArgs false
set_option linter.unusedVariables false
set_option linter.unusedSectionVars false
namespace Go.VM
section
variable [Ops] [Glb] [Lim]

/-! ### Objects by other numbers -/
def ren (e : Nat → Nat) : A → A
  | .ref o a b c => .ref (e o) a b c
  | .ptr o k => .ptr (e o) k
  | .eptr o i j l => .eptr (e o) i j l
  | .itr o => .itr (e o)
  | .clo f xs ys => .clo f (renL xs) (renL ys)
  | .agg xs => .agg (renL xs)
  | .tup xs => .tup (renL xs)
  | .d x => .d x
  | .nils => .nils
  | .iptr g i j sz => .iptr g i j sz
  | .undef => .undef
where renL : List A → List A
  | [] => []
  | x :: r => ren e x :: renL r

def renO (e : Nat → Nat) : AObj → AObj
  | .box cs => .box (ren.renL e cs)
  | x => x

theorem renL_length (e : Nat → Nat) : ∀ xs : List A, (ren.renL e xs).length = xs.length
  | [] => rfl
  | _ :: r => by simp [ren.renL, renL_length e r]

theorem renL_getD (e : Nat → Nat) : ∀ (xs : List A) (k : Nat), (ren.renL e xs).getD k .undef = ren e (xs.getD k .undef)
  | [], k => by simp [ren.renL, ren]
  | x :: r, 0 => by simp [ren.renL]
  | x :: r, k + 1 => by simpa [ren.renL] using renL_getD e r k

theorem renO_live (e : Nat → Nat) (x : AObj) : (renO e x).live ↔ x.live := by cases x <;> exact Iff.rfl
theorem renO_arr {e : Nat → Nat} {x : AObj} {n sz : Nat} {g : Nat → Nat → D} {fz : Nat} (h : renO e x = .arr n sz g fz) : x = .arr n sz g fz := by cases x <;> simp_all [renO]
theorem renO_iter {e : Nat → Nat} {x : AObj} {s : ByteArray} {p : Nat} (h : renO e x = .iter s p) : x = .iter s p := by cases x <;> simp_all [renO]
theorem renO_box {e : Nat → Nat} {x : AObj} {cs : List A} (h : renO e x = .box cs) : ∃ cs', x = .box cs' := by cases x <;> simp_all [renO]

theorem renO_isBox {e : Nat → Nat} {x : AObj} : (renO e x).isBox ↔ x.isBox := by cases x <;> exact Iff.rfl
theorem Own.ren {w : World} {ι ι1 : Nat → Option Nat} {e : Nat → Nat} {i b : Nat} {x : AObj} (h : ι (e i) = ι1 i) : Own w ι (e i) (renO e x) b ↔ Own w ι1 i x b := by
  cases x <;> simp only [renO, Own, h]

theorem Bel.mono {n m : Nat} (h : n ≤ m) {x : A} (hx : Bel n x) : Bel m x := by
  induction hx with
  | d => exact .d _
  | nils => exact .nils
  | ref _ _ _ _ h => exact .ref _ _ _ _ (by omega)
  | ptr _ _ h => exact .ptr _ _ (by omega)
  | eptr _ _ _ _ h => exact .eptr _ _ _ _ (by omega)
  | iptr => exact .iptr _ _ _ _
  | itr _ h => exact .itr _ (by omega)
  | clo _ _ _ _ _ ih1 ih2 => exact .clo _ _ _ ih1 ih2
  | agg _ _ ih => exact .agg _ ih
  | tup _ _ ih => exact .tup _ ih
  | undef => exact .undef

theorem RefOk.move {w : World} {ι ι' : Nat → Option Nat} {o o' off len sz : Nat} {v : Value} (e : ι' o' = ι o) (h : RefOk w ι o off len sz v) : RefOk w ι' o' off len sz v := by
  unfold RefOk at h ⊢
  rw [e]; exact h

theorem RepA.down {w : World} {I : Nat → Nat → Prop} {ι : Nat → Option Nat} {H H1 : AHeap} {e : Nat → Nat} (hobj : ∀ i x, H1[i]? = some x → H[e i]? = some (renO e x)) {x : A} (hb : Bel H1.length x) :
    ∀ {v : Value}, RepA w I ι H v (ren e x) → RepA w I (fun i => ι (e i)) H1 v x := by
  induction hb with
  | d x => intro v h; cases h with | d _ _ h => exact .d _ _ h
  | nils => intro v h; cases h; exact .nils
  | ref o off len sz ho =>
    intro v h
    cases h with | ref _ _ _ _ _ h1 h2 h3 => exact .ref v o off len sz ho (fun n sz' get fz hx hs => ⟨(h2 n sz' get fz (hobj o _ hx) hs).1, fun eq => ((h2 n sz' get fz (hobj o _ hx) hs).2 eq).move rfl⟩) h3
  | ptr o off ho =>
    intro v h
    cases h with | ptr _ _ _ h1 h2 h3 => exact .ptr v o off ho (fun cs hx hbx => h2 _ (hobj o _ hx) (renO_isBox.2 hbx)) h3
  | eptr o i j len ho =>
    intro v h
    cases h with | eptr _ _ _ _ _ h1 h2 h3 => exact .eptr v o i j len ho (fun n sz get fz hx => h2 n sz get fz (hobj o _ hx)) h3
  | iptr g i j sz => intro v h; cases h with | iptr b o _ _ _ _ vals hc hr => exact .iptr b o g i j sz vals hc hr
  | itr o ho =>
    intro v h
    cases h with | itr _ _ h1 h2 h3 => exact .itr v o ho (fun s p hx => h2 s p (hobj o _ hx)) h3
  | clo f xs ys _ _ ih1 ih2 =>
    intro v h
    cases h with | clo _ fv cv _ _ l1 l2 r1 r2 =>
    rw [renL_length] at l1 l2 r1 r2
    exact .clo f fv cv xs ys l1 l2 (fun k hk => ih1 k hk (by rw [← renL_getD]; exact r1 k hk)) (fun k hk => ih2 k hk (by rw [← renL_getD]; exact r2 k hk))
  | agg xs _ ih =>
    intro v h
    cases h with | agg vs _ l1 r1 =>
    rw [renL_length] at l1 r1
    exact .agg vs xs l1 (fun k hk => ih k hk (by rw [← renL_getD]; exact r1 k hk))
  | tup xs _ ih =>
    intro v h
    cases h with | tup vs _ l1 r1 =>
    rw [renL_length] at l1 r1
    exact .tup vs xs l1 (fun k hk => ih k hk (by rw [← renL_getD]; exact r1 k hk))
  | undef => intro v _; exact .undef v

theorem RepA.up {w : World} {I J : Nat → Nat → Prop} (hJ : ∀ b k, I b k → J b k) {ι1 ι' : Nat → Option Nat} {H2 H' : AHeap} {e : Nat → Nat} {m : Nat} (hobj : ∀ i, i < m → ∃ x, H2[i]? = some x ∧ H'[e i]? = some (renO e x)) (hι : ∀ i, i < m → ι' (e i) = ι1 i) {x : A} (hb : Bel m x) :
    ∀ {v : Value}, RepA w I ι1 H2 v x → RepA w J ι' H' v (ren e x) := by
  have hs : Same I w w := fun _ _ _ => rfl
  have hlt : ∀ i, i < m → e i < H'.length := fun i hi => by
    obtain ⟨x, _, h2⟩ := hobj i hi
    exact (List.getElem?_eq_some_iff.1 h2).1
  induction hb with
  | d x => intro v h; cases h with | d _ _ h => exact .d _ _ (h.mono hs hJ)
  | nils => intro v h; cases h; exact .nils
  | ref o off len sz ho =>
    intro v h
    cases h with | ref _ _ _ _ _ h1 h2 h3 =>
    obtain ⟨x, p1, p2⟩ := hobj o ho
    refine .ref v (e o) off len sz (hlt o ho) (fun n sz' get fz hx hs => ?_) h3
    rw [p2] at hx
    have := renO_arr (Option.some.inj hx)
    subst this
    exact ⟨(h2 n sz' get fz p1 hs).1, fun eq => ((h2 n sz' get fz p1 hs).2 eq).move (hι o ho)⟩
  | ptr o off ho =>
    intro v h
    cases h with | ptr _ _ _ h1 h2 h3 =>
    obtain ⟨x, p1, p2⟩ := hobj o ho
    refine .ptr v (e o) off (hlt o ho) (fun y hx hbx => ?_) h3
    rw [p2] at hx
    cases hx
    rw [hι o ho]; exact h2 x p1 (renO_isBox.1 hbx)
  | eptr o i j len ho =>
    intro v h
    cases h with | eptr _ _ _ _ _ h1 h2 h3 =>
    obtain ⟨x, p1, p2⟩ := hobj o ho
    refine .eptr v (e o) i j len (hlt o ho) (fun n sz get fz hx => ?_) h3
    rw [p2] at hx
    have := renO_arr (Option.some.inj hx)
    subst this
    rw [hι o ho]; exact h2 n sz get fz p1
  | iptr g i j sz => intro v h; cases h with | iptr b o _ _ _ _ vals hc hr => exact .iptr b o g i j sz vals (fun q hq => ⟨hJ _ _ (hc q hq).1, (hc q hq).2⟩) (fun q hq => (hr q hq).mono hs hJ)
  | itr o ho =>
    intro v h
    cases h with | itr _ _ h1 h2 h3 =>
    obtain ⟨x, p1, p2⟩ := hobj o ho
    refine .itr v (e o) (hlt o ho) (fun s p hx => ?_) h3
    rw [p2] at hx
    have := renO_iter (Option.some.inj hx)
    subst this
    rw [hι o ho]; exact h2 s p p1
  | clo f xs ys _ _ ih1 ih2 =>
    intro v h
    cases h with | clo _ fv cv _ _ l1 l2 r1 r2 =>
    exact .clo f fv cv _ _ (by rw [renL_length]; exact l1) (by rw [renL_length]; exact l2) (fun k hk => by rw [renL_length] at hk; rw [renL_getD]; exact ih1 k hk (r1 k hk)) (fun k hk => by rw [renL_length] at hk; rw [renL_getD]; exact ih2 k hk (r2 k hk))
  | agg xs _ ih =>
    intro v h
    cases h with | agg vs _ l1 r1 =>
    exact .agg vs _ (by rw [renL_length]; exact l1) (fun k hk => by rw [renL_length] at hk; rw [renL_getD]; exact ih k hk (r1 k hk))
  | tup xs _ ih =>
    intro v h
    cases h with | tup vs _ l1 r1 =>
    exact .tup vs _ (by rw [renL_length]; exact l1) (fun k hk => by rw [renL_length] at hk; rw [renL_getD]; exact ih k hk (r1 k hk))
  | undef => intro v _; exact .undef v

/-- a result: what it says of the first m objects stays, the others are frozen into data -/
inductive FrzM (m : Nat) (e : Nat → Nat) (H : AHeap) : A → A → Prop
  | keep (x : A) (h : Bel m x) : FrzM m e H x (ren e x)
  | nils (sz : Nat) (g : Nat → Nat → D) : FrzM m e H .nils (.d (.sl 0 sz g))
  | ref (o off len sz n fz : Nat) (get : Nat → Nat → D) (hm : m ≤ o) (h : H[o]? = some (.arr n sz get fz)) (q : off + len = n) : FrzM m e H (.ref o off len sz) (.d (.sl len sz fun i j => get (off + i) j))
  | ref0 (o len sz n fz : Nat) (get : Nat → Nat → D) (hm : m ≤ o) (h : H[o]? = some (.arr n sz get fz)) (q : len = n) : FrzM m e H (.ref o 0 len sz) (.d (.sl len sz get))
  | agg (xs ys : List A) (hl : xs.length = ys.length) (h : ∀ k, k < xs.length → FrzM m e H (xs.getD k .undef) (ys.getD k .undef)) : FrzM m e H (.agg xs) (.agg ys)
  | tup (xs ys : List A) (hl : xs.length = ys.length) (h : ∀ k, k < xs.length → FrzM m e H (xs.getD k .undef) (ys.getD k .undef)) : FrzM m e H (.tup xs) (.tup ys)
  | un (x : A) : FrzM m e H x .undef
  | deq (a : A) (x y : D) (h : FrzM m e H a (.d x)) (q : Deq x y) : FrzM m e H a (.d y)

theorem FrzM.rep {B : Gd} {w : World} {I J : Nat → Nat → Prop} {ι ι' : Nat → Option Nat} {H H' : AHeap} {m : Nat} {e : Nat → Nat} (r : Rel B ι I w H) (hi : ∀ b k, I b k → J b k) (hn : ∀ o x b k, m ≤ o → H[o]? = some x → x.live → Own w ι o x b → J b k)
    (hup : ∀ x v, Bel m x → RepA w I ι H v x → RepA w J ι' H' v (ren e x)) {x y : A} (f : FrzM m e H x y) : ∀ {v : Value}, RepA w I ι H v x → RepA w J ι' H' v y := by
  have hs : Same I w w := fun _ _ _ => rfl
  have main : ∀ (v : Value) (o off len sz n fz : Nat) (get g : Nat → Nat → D), m ≤ o → H[o]? = some (.arr n sz get fz) → off + len = n → (∀ i j, i < len → g i j = get (off + i) j) → RepA w I ι H v (.ref o off len sz) → RepD w J v (.sl len sz g) := by
    intro v o off len sz n fz get g hm h e hg hv
    cases hv with | ref _ _ _ _ _ ho h1 hl =>
    obtain ⟨-, h2⟩ := h1 n sz get fz h rfl
    rcases h2 e with ⟨b, cap, vs, el, fr, e1, rfl, e3, e4, e5⟩ | ⟨e1, rfl, rfl⟩ | ⟨a, rfl, rfl, e3⟩
    · obtain ⟨hfz, hob⟩ := r.obj o _ h
      rcases hob with ⟨b', vs', el', fr', p1, p2, p3, p4, p5, p6⟩ | ⟨p1, p2⟩
      · have hbb : b = b' := by rw [e1] at p1; exact Option.some.inj p1
        subst hbb
        rw [e3] at p3
        cases p3
        refine .sl b (off * sz) len cap sz g (fun i j => vs.getD ((off + i) * sz + j) undef) e5 (fun i j hi' hj => ⟨hn o _ b _ hm h trivial e1, ?_⟩) (fun i j hi' hj => ?_)
        · have hmul : (off + i) * sz = off * sz + i * sz := Nat.add_mul ..
          have hb : (off + i + 1) * sz ≤ n * sz := Nat.mul_le_mul_right _ (by omega)
          have hb' : (off + i + 1) * sz = (off + i) * sz + sz := Nat.succ_mul ..
          have hlt' : off * sz + (i * sz + j) < vs.size := by omega
          unfold World.cell?
          simp only [e3]
          rw [show (off + i) * sz + j = off * sz + (i * sz + j) by omega]
          simp [Array.getD_eq_getD_getElem?, hlt']
        · rw [hg i j hi']
          exact (p5 (off + i) j (by omega) hj).mono hs hi
      · rw [e1] at p1; cases p1
    · exact .sl0 _ _ _ _
    · exact .sl0 _ _ _ _
  induction f with
  | keep x h => intro v hv; exact hup x v h hv
  | nils sz g => intro v h; cases h with | nils => exact .d _ _ (.sl0 _ _ _ _)
  | ref o off len sz n fz get hm h e => intro v hv; exact .d v _ (main v o off len sz n fz get _ hm h e (fun _ _ _ => rfl) hv)
  | ref0 o len sz n fz get hm h e => intro v hv; exact .d v _ (main v o 0 len sz n fz get _ hm h (by omega) (fun i j _ => by rw [Nat.zero_add]) hv)
  | agg xs ys hl _ ih =>
    intro v h
    cases h with | agg vs _ h1 h2 => exact .agg vs ys (by omega) fun k hk => ih k (by omega) (h2 k (by omega))
  | tup xs ys hl _ ih =>
    intro v h
    cases h with | tup vs _ h1 h2 => exact .tup vs ys (by omega) fun k hk => ih k (by omega) (h2 k (by omega))
  | un x => intro v _; exact .undef v
  | deq a x y _ e ih =>
    intro v hv
    cases ih hv with | d _ _ h => exact .d v y (h.deq e)

/-- an object, by another number -/
theorem ObjOk.down {B B1 : Gd} {w : World} {I : Nat → Nat → Prop} {ι : Nat → Option Nat} {H H1 : AHeap} {e : Nat → Nat} (hobj : ∀ i x, H1[i]? = some x → H[e i]? = some (renO e x)) {i : Nat} {x : AObj} (hb : BelO H1.length x)
    (hB : ∀ b, x.live → Own w (fun i => ι (e i)) i x b → ¬ B1 b) (h : ObjOk B ι I w H (e i) (renO e x)) : ObjOk B1 (fun i => ι (e i)) I w H1 i x := by
  cases x with
  | dead => trivial
  | bld c =>
    obtain ⟨b, p, v, h1, h2, h3, h4, h5, h6⟩ := h
    refine ⟨b, p, v, h1, hB b trivial (.inl h1), h3, h4, h5, ?_⟩
    rcases h6 with h6 | ⟨g, cap, cur, fz, rfl, q2, q3, q4⟩
    · exact .inl h6
    · exact .inr ⟨g, cap, cur, fz, rfl, q2, hB g trivial (.inr ⟨b, _, _, h1, cell_bld h3⟩), q4⟩
  | iter s p =>
    obtain ⟨b, h1, h2, h3⟩ := h
    exact ⟨b, h1, hB b trivial h1, h3⟩
  | box cs =>
    obtain ⟨b, vs, el, fr, h1, h2, h3, h4, h5, h6⟩ := h
    rw [renL_length] at h4 h5
    exact ⟨b, vs, el, fr, h1, hB b trivial h1, h3, h4, fun k hk => (show RepA w I ι H _ (ren e (cs.getD k .undef)) by rw [← renL_getD]; exact h5 k hk).down hobj (hb k hk), h6⟩
  | arr n sz get fz =>
    obtain ⟨hfz, h⟩ := h
    refine ⟨hfz, ?_⟩
    rcases h with ⟨b, vs, el, fr, h1, h2, h3, h4, h5, h6⟩ | ⟨h1, h2⟩
    · exact .inl ⟨b, vs, el, fr, h1, hB b trivial h1, h3, h4, h5, h6⟩
    · exact .inr ⟨h1, h2⟩

theorem ObjOk.up {B B1 : Gd} {w : World} {I J : Nat → Nat → Prop} (hJ : ∀ b k, I b k → J b k) {ι1 ι' : Nat → Option Nat} {H2 H' : AHeap} {e : Nat → Nat} {i : Nat} {x : AObj} (hι : ι' (e i) = ι1 i)
    (hrep : ∀ v y, Bel H2.length y → RepA w I ι1 H2 v y → RepA w J ι' H' v (ren e y)) (hb : BelO H2.length x) (hB : ∀ b, ¬ B1 b → b < w.heap.size → ¬ B b) (hf : ∀ b k, x.live → Own w ι1 i x b → J b k → I b k)
    (h : ObjOk B1 ι1 I w H2 i x) : ObjOk B ι' J w H' (e i) (renO e x) := by
  have hs : Same I w w := fun _ _ _ => rfl
  cases x with
  | dead => trivial
  | bld c =>
    obtain ⟨b, p, v, h1, h2, h3, h4, h5, h6⟩ := h
    refine ⟨b, p, v, hι.trans h1, hB b h2 (lt_of_heap h3), h3, h4, fun k hk => h5 k (hf b k trivial (.inl h1) hk), ?_⟩
    rcases h6 with h6 | ⟨g, cap, cur, fz, rfl, q2, q3, q4, q5, q6, q7⟩
    · exact .inl h6
    · exact .inr ⟨g, cap, cur, fz, rfl, q2, hB g q3 (lt_of_heap q6), fun k hk => q4 k (hf g k trivial (.inr ⟨b, _, _, h1, cell_bld h3⟩) hk), q5, q6, q7⟩
  | iter s p =>
    obtain ⟨b, h1, h2, h3⟩ := h
    exact ⟨b, hι.trans h1, hB b h2 (lt_of_heap h3), h3⟩
  | box cs =>
    obtain ⟨b, vs, el, fr, h1, h2, h3, h4, h5, h6⟩ := h
    exact ⟨b, vs, el, fr, hι.trans h1, hB b h2 (lt_of_heap h3), h3, by rw [renL_length]; exact h4, fun k hk => by
      rw [renL_length] at hk
      rw [renL_getD]; exact hrep _ _ (hb k hk) (h5 k hk), fun k hk hc => h6.1 k hk (hf b k trivial h1 hc), h6.2⟩
  | arr n sz get fz =>
    obtain ⟨hfz, h⟩ := h
    refine ⟨hfz, ?_⟩
    rcases h with ⟨b, vs, el, fr, h1, h2, h3, h4, h5, h6⟩ | ⟨h1, h2⟩
    · exact .inl ⟨b, vs, el, fr, hι.trans h1, hB b h2 (lt_of_heap h3), h3, h4, fun i j hi hj => (h5 i j hi hj).mono hs hJ, fun k hk hc => h6.1 k hk (hf b k trivial h1 hc), h6.2⟩
    · exact .inr ⟨hι.trans h1, h2⟩

/-- an object that nobody touched -/
theorem ObjOk.stay {B : Gd} {w w' : World} {I J : Nat → Nat → Prop} {ι ι' : Nat → Option Nat} {H H' : AHeap} {o : Nat} {x : AObj} (e : ι' o = ι o) (hs : Same I w w') (hI : ∀ b k, I b k → J b k)
    (hrep : ∀ v y, RepA w I ι H v y → RepA w' J ι' H' v y) (hb' : ∀ b, x.live → Own w ι o x b → w'.heap[b]? = w.heap[b]?) (hf' : ∀ b k, x.live → Own w ι o x b → J b k → I b k) (h : ObjOk B ι I w H o x) : ObjOk B ι' J w' H' o x := by
  have hb : ∀ b, x.live → ι o = some b → w'.heap[b]? = w.heap[b]? := fun b hl h => hb' b hl (.of h)
  have hf : ∀ b k, x.live → ι o = some b → J b k → I b k := fun b k hl h => hf' b k hl (.of h)
  have hfree : ∀ b n, x.live → ι o = some b → Free w I b n → Free w' J b n := fun b n hl hi hf' =>
    ⟨fun k hk hc => hf'.1 k hk (hf b k hl hi hc), fun k hk => by
      have := hf'.2 k hk
      unfold World.frozen? at this ⊢
      rw [hb b hl hi]; exact this⟩
  cases x with
  | dead => trivial
  | bld c =>
    obtain ⟨b, p, v, h1, h2, h3, h4, h5, h6⟩ := h
    refine ⟨b, p, v, e.trans h1, h2, (hb b trivial h1).trans h3, h4, fun k hk => h5 k (hf b k trivial h1 hk), h6.keep fun g n k hv => ?_⟩
    have : Own w ι o (.bld c) g := .inr ⟨b, n, k, h1, by rw [cell_bld h3, hv]⟩
    exact ⟨hb' g trivial this, fun q => hf' g q trivial this⟩
  | iter s p =>
    obtain ⟨b, h1, h2, h3⟩ := h
    exact ⟨b, e.trans h1, h2, (hb b trivial h1).trans h3⟩
  | box cs =>
    obtain ⟨b, vs, el, fr, h1, h2, h3, h4, h5, h6⟩ := h
    exact ⟨b, vs, el, fr, e.trans h1, h2, (hb b trivial h1).trans h3, h4, fun k hk => hrep _ _ (h5 k hk), hfree b 0 trivial h1 h6⟩
  | arr n sz get fz =>
    obtain ⟨hfz, h⟩ := h
    refine ⟨hfz, ?_⟩
    rcases h with ⟨b, vs, el, fr, h1, h2, h3, h4, h5, h6⟩ | ⟨h1, h2⟩
    · exact .inl ⟨b, vs, el, fr, e.trans h1, h2, (hb b trivial h1).trans h3, h4, fun i j hi hj => (h5 i j hi hj).mono hs hI, hfree b _ trivial h1 h6⟩
    · exact .inr ⟨e.trans h1, h2⟩

theorem leO_live {x y : AObj} (hx : x.live) (hle : leO x y) : y.live := by
  cases x with
  | dead => exact hx.elim
  | iter s p => cases hle; trivial
  | bld c => cases hle; trivial
  | box cs => obtain ⟨_, rfl, _⟩ := hle; trivial
  | arr m sz g fz => obtain ⟨_, _, rfl, _⟩ := hle; trivial

end
variable [Glb]
/-- what a call over the objects H1 has to leave, so that it serves over H, where they stand at e -/
def Left (H1 H : AHeap) (e : Nat → Nat) (r1 : A) (H1' : AHeap) (R : A → AHeap → Prop) : Prop :=
  ∃ y H2 H', FrzM H2.length e H1' r1 y ∧ H1.length ≤ H2.length ∧ (∀ i, H1.length ≤ i → i < H2.length → e i = H.length + (i - H1.length)) ∧ leH H2 H1' ∧ (∀ (i : Nat) x, H2[i]? = some x → BelO H2.length x) ∧
    H'.length = H.length + (H2.length - H1.length) ∧ (∀ (i : Nat) x, H2[i]? = some x → H'[e i]? = some (renO e x)) ∧ (∀ o, o < H.length → (∀ i, i < H1.length → e i ≠ o) → H'[o]? = H[o]?) ∧ R y H'

open Classical in
/-- THE FRAME with objects. -/
theorem VCalls.frame {P : Program} {K : FuncId} {args1 : List A} {H1 : AHeap} {R1 : A → AHeap → Prop} (h : VCalls P K args1 H1 R1) (H : AHeap) (e : Nat → Nat)
    (hinj : ∀ i j, i < H1.length → j < H1.length → e i = e j → i = j) (hobj : ∀ (i : Nat) x, H1[i]? = some x → H[e i]? = some (renO e x)) (hbo : ∀ (i : Nat) x, H1[i]? = some x → BelO H1.length x)
    (hba : ∀ k, k < args1.length → Bel H1.length (args1.getD k .undef)) {R : A → AHeap → Prop} (hr : ∀ r1 H1', R1 r1 H1' → Left H1 H e r1 H1' R) : VCalls P K (ren.renL e args1) H R := by
  refine Ops.exists_one.elim fun inst => ?_
  intro lim B ι I w vs hrel hargs
  let B1 : Gd := fun b => b < w.heap.size ∧ ∀ (i : Nat) x, H1[i]? = some x → x.live → ¬ Own w (fun i => ι (e i)) i x b
  have hBB : ∀ b, B b → B1 b := fun b hb => ⟨hrel.base b hb, fun i x hx hl hi => ((hrel.obj (e i) _ (hobj i x hx)).lt ((renO_live e x).2 hl) ((Own.ren rfl).2 hi)).1 hb⟩
  have hltx : ∀ (i : Nat) x, H1[i]? = some x → i < H1.length := fun i x hx => (List.getElem?_eq_some_iff.1 hx).1
  have r0 : @Rel _ ⟨I⟩ B1 (fun i => ι (e i)) I w H1 := @Rel.mk _ ⟨I⟩ _ _ _ _ _ (fun k hk => hk.1) hrel.imm (fun b k _ h => h) hrel.glob
    (fun i x hx => (hrel.obj (e i) _ (hobj i x hx)).down hobj (hbo i x hx) (fun b hl hi hb => hb.2 i x hx hl hi))
    (fun i j x y b hx hy lx ly hi hj => hinj i j (hltx i x hx) (hltx j y hy) (hrel.inj (e i) (e j) _ _ b (hobj i x hx) (hobj j y hy) ((renO_live e x).2 lx) ((renO_live e y).2 ly) ((Own.ren rfl).2 hi) ((Own.ren rfl).2 hj)))
  have hl1 : vs.length = args1.length := by rw [hargs.1, renL_length]
  refine (h ⟨I⟩ B1 (fun i => ι (e i)) I w vs r0 ⟨hl1, fun k hk => (show RepA w I ι H _ (ren e (args1.getD k .undef)) by rw [← renL_getD]; exact hargs.2 k (by rw [renL_length]; exact hk)).down hobj (hba k hk)⟩).mono ?_
  rintro _ w' ⟨v, r1, H1', ι1, I', rfl, hR, hrel', hrep, hkeep⟩
  obtain ⟨y, H2, H', hF, hl2, hnew, hle, hb2, hlen', hin, hout0, hRR⟩ := hr r1 H1' hR
  have helt : ∀ i, i < H1.length → e i < H.length := fun i hi => (List.getElem?_eq_some_iff.1 (hobj i _ (List.getElem?_eq_getElem hi))).1
  have hinj2 : ∀ i j, i < H2.length → j < H2.length → e i = e j → i = j := fun i j hi hj he => by
    rcases Nat.lt_or_ge i H1.length with h1 | h1 <;> rcases Nat.lt_or_ge j H1.length with h2 | h2
    · exact hinj i j h1 h2 he
    · have := hnew j h2 hj; have := helt i h1; omega
    · have := hnew i h1 hi; have := helt j h2; omega
    · have := hnew i h1 hi; have := hnew j h2 hj; omega
  have hout : ∀ o, (∀ i, i < H2.length → e i ≠ o) → H'[o]? = H[o]? := fun o ho => by
    rcases Nat.lt_or_ge o H.length with h1 | h1
    · exact hout0 o h1 (fun i hi => ho i (by omega))
    · rw [List.getElem?_eq_none h1, List.getElem?_eq_none]
      rcases Nat.lt_or_ge o (H.length + (H2.length - H1.length)) with h2 | h2
      · exact absurd (by rw [hnew (H1.length + (o - H.length)) (by omega) (by omega)]; omega) (ho (H1.length + (o - H.length)) (by omega))
      · omega
  obtain ⟨hll, hg⟩ := leH_get hle
  have hrel2 : @Rel _ ⟨I⟩ B1 ι1 I' w' H2 := @Rel.less _ _ ⟨I⟩ _ _ _ _ _ _ hrel' hle hb2
  have hobj' := @Rel.obj _ ⟨I⟩ _ _ _ _ _ hrel'
  have hobj2 := @Rel.obj _ ⟨I⟩ _ _ _ _ _ hrel2
  have hinj' := @Rel.inj _ ⟨I⟩ _ _ _ _ _ hrel'
  have himm' := @Rel.imm _ ⟨I⟩ _ _ _ _ _ hrel'
  have hlow' : ∀ b k, B1 b → I' b k → I b k := @Rel.low _ ⟨I⟩ _ _ _ _ _ hrel'
  let J : Nat → Nat → Prop := fun b k => I' b k ∨ ∃ (o : Nat) (x : AObj), H2.length ≤ o ∧ H1'[o]? = some x ∧ x.live ∧ Own w' ι1 o x b
  let ι' : Nat → Option Nat := fun o => if h : ∃ i, i < H2.length ∧ e i = o then ι1 h.choose else ι o
  have hι1 : ∀ i, i < H2.length → ι' (e i) = ι1 i := fun i hi => by
    have hex : ∃ j, j < H2.length ∧ e j = e i := ⟨i, hi, rfl⟩
    show (if h : ∃ j, j < H2.length ∧ e j = e i then ι1 h.choose else ι (e i)) = ι1 i
    rw [dif_pos hex]
    rw [hinj2 _ _ hex.choose_spec.1 hi hex.choose_spec.2]
  have hι2 : ∀ o, (∀ i, i < H2.length → e i ≠ o) → ι' o = ι o := fun o ho => by
    show (if h : ∃ j, j < H2.length ∧ e j = o then ι1 h.choose else ι o) = ι o
    rw [dif_neg fun ⟨j, h1, h2⟩ => ho j h1 h2]
  have hJI : ∀ b k, I' b k → J b k := fun _ _ h => .inl h
  have hJ0 : ∀ b k, I b k → J b k := fun b k h => .inl (hkeep.imm b k h)
  have hJlow : ∀ b k, B1 b → J b k → I b k := by
    rintro b k hb (hk | ⟨o, x, _, hx, hl, hi⟩)
    · exact hlow' b k hb hk
    · exact absurd hb (@ObjOk.lt _ _ ⟨I⟩ _ _ _ _ _ _ _ (hobj' o x hx) hl _ hi).1
  have hblk : ∀ b, B1 b → w'.heap[b]? = w.heap[b]? := fun b hb => hkeep.below.block b hb.1 hb
  have hup : ∀ v x, Bel H2.length x → RepA w' I' ι1 H2 v x → RepA w' J ι' H' v (ren e x) := fun v x hb hx => hx.up hJI (m := H2.length) (fun i hi2 => ⟨H2[i], List.getElem?_eq_getElem hi2, hin i _ (List.getElem?_eq_getElem hi2)⟩) hι1 hb
  -- objects that the call was not given
  have hfar : ∀ o x, (∀ i, i < H2.length → e i ≠ o) → H[o]? = some x → x.live → ∀ b, Own w ι o x b → B1 b := fun o x ho hx hl b hb =>
    ⟨((hrel.obj o x hx).lt hl hb).2, fun i z hz lz hi => ho i (Nat.lt_of_lt_of_le (hltx i z hz) hl2) (hrel.inj (e i) o _ x b (hobj i z hz) hx ((renO_live e z).2 lz) hl ((Own.ren rfl).2 hi) hb)⟩
  have hnear : ∀ v x, Bel H1.length x → RepA w I ι H v (ren e x) → RepA w' J ι' H' v (ren e x) := fun v x hb hx =>
    hup v x (hb.mono hl2) ((hkeep.rep v x (hx.down hobj hb)).less hle (hb.mono hl2))
  have hout2 : ∀ {o : Nat}, o < H.length → (¬ ∃ i, i < H1.length ∧ e i = o) → ∀ i, i < H2.length → e i ≠ o := fun hlt ho i hi he => by
    rcases Nat.lt_or_ge i H1.length with h1 | h1
    · exact ho ⟨i, h1, he⟩
    · have := hnew i h1 hi; omega
  have htr : ∀ v x, RepA w I ι H v x → RepA w' J ι' H' v x := by
    intro v x hx
    induction hx with
    | d v x h => exact .d v x (h.mono hkeep.same hJ0)
    | nils => exact .nils
    | ref v o off len sz ho h hl =>
      by_cases hc : ∃ i, i < H1.length ∧ e i = o
      · obtain ⟨i, hi, rfl⟩ := hc
        exact hnear v (.ref i off len sz) (.ref i off len sz hi) (.ref v _ off len sz ho h hl)
      · refine .ref v o off len sz (by rw [hlen']; omega) (fun n sz' get fz hx hs => ?_) hl
        rw [hout o (hout2 ho hc)] at hx
        refine ⟨(h n sz' get fz hx hs).1, fun eq => ?_⟩
        rcases (h n sz' get fz hx hs).2 eq with ⟨b, cap, vs, el, fr, p1, p2, p3, p4⟩ | q | q
        · exact .inl ⟨b, cap, vs, el, fr, (hι2 o (hout2 ho hc)).trans p1, p2, (hblk b (hfar o _ (hout2 ho hc) hx trivial b p1)).trans p3, p4⟩
        · exact .inr (.inl ⟨(hι2 o (hout2 ho hc)).trans q.1, q.2⟩)
        · exact .inr (.inr q)
    | ptr v o off ho h hv =>
      by_cases hc : ∃ i, i < H1.length ∧ e i = o
      · obtain ⟨i, hi, rfl⟩ := hc
        exact hnear v (.ptr i off) (.ptr i off hi) (.ptr v _ off ho h hv)
      · refine .ptr v o off (by rw [hlen']; omega) (fun cs hx hbx => ?_) hv
        rw [hout o (hout2 ho hc)] at hx
        rw [hι2 o (hout2 ho hc)]; exact h cs hx hbx
    | eptr v o i j len ho h hv =>
      by_cases hc : ∃ i, i < H1.length ∧ e i = o
      · obtain ⟨k, hk, rfl⟩ := hc
        exact hnear v (.eptr k i j len) (.eptr k i j len hk) (.eptr v _ i j len ho h hv)
      · refine .eptr v o i j len (by rw [hlen']; omega) (fun n sz get fz hx => ?_) hv
        rw [hout o (hout2 ho hc)] at hx
        rw [hι2 o (hout2 ho hc)]; exact h n sz get fz hx
    | iptr b o g i j sz vals hc hr => exact .iptr b o g i j sz vals (fun q hq => ⟨hJ0 _ _ (hc q hq).1, (hkeep.same _ _ (hc q hq).1).trans (hc q hq).2⟩) (fun q hq => (hr q hq).mono hkeep.same hJ0)
    | itr v o ho h hv =>
      by_cases hc : ∃ i, i < H1.length ∧ e i = o
      · obtain ⟨i, hi, rfl⟩ := hc
        exact hnear v (.itr i) (.itr i hi) (.itr v _ ho h hv)
      · refine .itr v o (by rw [hlen']; omega) (fun s p hx => ?_) hv
        rw [hout o (hout2 ho hc)] at hx
        rw [hι2 o (hout2 ho hc)]; exact h s p hx
    | clo f fv cv first caps h1 h2 _ _ ih1 ih2 => exact .clo f fv cv first caps h1 h2 ih1 ih2
    | agg vs cs h1 _ ih => exact .agg vs cs h1 ih
    | tup vs cs h1 _ ih => exact .tup vs cs h1 ih
    | undef v => exact .undef v
  have hget : ∀ (o : Nat) x, H'[o]? = some x → (∃ i z, i < H2.length ∧ e i = o ∧ H2[i]? = some z ∧ x = renO e z) ∨ ((∀ i, i < H2.length → e i ≠ o) ∧ H[o]? = some x) := fun o x hx => by
    by_cases hc : ∃ i, i < H2.length ∧ e i = o
    · obtain ⟨i, hi2, rfl⟩ := hc
      have h3 := hin i _ (List.getElem?_eq_getElem hi2)
      rw [h3] at hx
      exact .inl ⟨i, H2[i], hi2, rfl, List.getElem?_eq_getElem hi2, (Option.some.inj hx).symm⟩
    · have hc : ∀ i, i < H2.length → e i ≠ o := fun i hi he => hc ⟨i, hi, he⟩
      exact .inr ⟨hc, by rw [← hout o hc]; exact hx⟩
  -- blocks of the objects that were given: not the ground's
  have hnB : ∀ b, ¬ B1 b → b < w'.heap.size → ¬ B b := fun b h1 _ h2 => h1 (hBB b h2)
  have hnJ : ∀ (i : Nat) z b k, i < H2.length → H2[i]? = some z → z.live → Own w' ι1 i z b → J b k → I' b k := by
    rintro i z b k hi hz lz hb (hk | ⟨o, x, ho, hx, hl, hi'⟩)
    · exact hk
    · obtain ⟨y', hy, hle'⟩ := hg i z hz
      have := hinj' i o y' x b hy hx (leO_live lz hle') hl (leO_own lz hle' hb) hi'
      omega
  have hrelJ : @Rel _ lim B ι' J w' H' := by
    refine @Rel.mk _ lim _ _ _ _ _ (fun k hk => Nat.lt_of_lt_of_le (hrel.base k hk) hkeep.below.size) ?_ (fun b k hb hk => hrel.low b k hb (hJlow b k (hBB b hb) hk)) (fun b k v hg => ⟨hJ0 _ _ (hrel.glob b k v hg).1, (hkeep.same _ _ (hrel.glob b k v hg).1).trans (hrel.glob b k v hg).2⟩) ?_ ?_
    · rintro b k (hk | ⟨o, x, ho, hx, hl, hi⟩)
      · exact himm' b k hk
      · exact (@ObjOk.lt _ _ ⟨I⟩ _ _ _ _ _ _ _ (hobj' o x hx) hl _ hi).2
    · intro o x hx
      rcases hget o x hx with ⟨i, z, hi, rfl, hz, rfl⟩ | ⟨ho, hx⟩
      · exact (hobj2 i z hz).up hJI (hι1 i hi) (fun v y hb hy => hup v y hb hy) (hb2 i z hz) (fun b h1 h2 => hnB b h1 h2) (fun b k lz hb hk => hnJ i z b k hi hz lz hb hk)
      · exact (hrel.obj o x hx).stay (hι2 o ho) hkeep.same hJ0 htr (fun b hl hb => hblk b (hfar o x ho hx hl b hb)) (fun b k hl hb hk => hJlow b k (hfar o x ho hx hl b hb) hk)
    · intro o o' x x' b hx hx' lx lx' hb hb'
      have old : ∀ o x, (∀ i, i < H2.length → e i ≠ o) → H[o]? = some x → x.live → Own w' ι' o x b → Own w ι o x b := fun o x ho hx hl hc =>
        hc.back (hι2 o ho) (fun c hi => hblk c (hfar o x ho hx hl c (.of hi)))
      rcases hget o x hx with ⟨i, z, hi, rfl, hz, rfl⟩ | ⟨ho, hx⟩ <;> rcases hget o' x' hx' with ⟨j, z', hj, rfl, hz', rfl⟩ | ⟨ho', hx'⟩
      · rw [@Rel.inj _ ⟨I⟩ _ _ _ _ _ hrel2 i j z z' b hz hz' ((renO_live e z).1 lx) ((renO_live e z').1 lx') ((Own.ren (hι1 i hi)).1 hb) ((Own.ren (hι1 j hj)).1 hb')]
      · exact absurd (hfar o' x' ho' hx' lx' b (old o' x' ho' hx' lx' hb')) (@ObjOk.lt _ _ ⟨I⟩ _ _ _ _ _ _ _ (hobj2 i z hz) ((renO_live e z).1 lx) _ ((Own.ren (hι1 i hi)).1 hb)).1
      · exact absurd (hfar o x ho hx lx b (old o x ho hx lx hb)) (@ObjOk.lt _ _ ⟨I⟩ _ _ _ _ _ _ _ (hobj2 j z' hz') ((renO_live e z').1 lx') _ ((Own.ren (hι1 j hj)).1 hb')).1
      · exact hrel.inj o o' x x' b hx hx' lx lx' (old o x ho hx lx hb) (old o' x' ho' hx' lx' hb')
  have hbelow : Below B w w' := ⟨hkeep.below.os, hkeep.below.tape, hkeep.below.output, hkeep.below.size, fun k hk hb => hkeep.below.block k hk (hBB k hb)⟩
  refine ⟨v, y, H', ι', J, rfl, hRR, hrelJ, ?_, hbelow, hkeep.same, hJ0, by omega, htr⟩
  exact @FrzM.rep _ _ ⟨I⟩ B1 w' I' J ι1 ι' H1' H' H2.length e hrel' hJI (fun o x b k ho hx hl hb => .inr ⟨o, x, ho, hx, hl, hb⟩) (fun x v hb hx => hup v x hb (hx.less hle hb)) _ _ hF _ hrep

end Go.VM
