/- The same weakest precondition with the rest of the body as a list: no term is met twice. -/
import Derived.Test.YtcpdnjehmnbheaaDoorVX
import Derived.Test.YtcpdnjehmnbheaaDoorVT
set_option linter.unusedSimpArgs false
set_option linter.unusedVariables false
set_option linter.unusedSectionVars false
namespace Go.VM
open Ops

inductive Fr | seq (b : Code) | block (id : Nat)

/-- evaluation stops here -/
inductive Later (p : Unit → Prop) : Prop | mk (h : p ())

def popK (run : Code → List Fr → St → Prop) (Q : Ex → St → Prop) : List Fr → Ex → St → Prop
  | [], e, σ => Q e σ
  | .seq b :: K, e, σ => match e with
    | .normal => run b K σ
    | .exit i => popK run Q K (.exit i) σ
    | .ret => popK run Q K .ret σ
  | .block id :: K, e, σ => match e with
    | .normal => popK run Q K .normal σ
    | .exit i => (match Nat.beq i id with
      | true => popK run Q K .normal σ
      | false => popK run Q K (.exit i) σ)
    | .ret => popK run Q K .ret σ

variable [Ops] [Glb] [Lim]

def Wk (P : Unit → Program) (T : Unit → Tab) (n : Nat) (Q : Ex → St → Prop) : Nat → Code → List Fr → St → Prop
  | 0, _, _, _ => False
  | f + 1, c, K, σ => match c with
    | .skip => popK (Wk P T n Q f) Q K .normal σ
    | .region id ops draw => match draw with
      | false => wops P T ops.toList ops.toList σ (popK (Wk P T n Q f) Q K .normal)
      | true => wdraw P T ops.toList (lenL ops.toList) (noneL ops.toList) σ (popK (Wk P T n Q f) Q K .normal)
    | .seq a b => Wk P T n Q f a (.seq b :: K) σ
    | .cond c a b => match ev σ.tm c with
      | .d (.bool t) => Later (fun _ => match t with
        | true => Wk P T n Q f a K σ
        | false => Wk P T n Q f b K σ)
      | _ => False
    | .block id b => Wk P T n Q f b (.block id :: K) σ
    | .loop b => LoopVW P n b (popK (Wk P T n Q f) Q K) σ
    | .exit id => popK (Wk P T n Q f) Q K (.exit id) σ
    | .ret => popK (Wk P T n Q f) Q K .ret σ
    | _ => False

variable {P : Program} {T : Tab} {Pf : Unit → Program} {Tf : Unit → Tab} {n : Nat}

def kQ (P : Program) (n : Nat) (Q : Ex → St → Prop) : List Fr → Ex → St → Prop
  | [] => Q
  | .seq b :: K => seqQ (VW P n b (kQ P n Q K)) (kQ P n Q K)
  | .block i :: K => blockQ i (kQ P n Q K)

omit [Glb] in
theorem popK_ok {Q : Ex → St → Prop} {run : Code → List Fr → St → Prop} [Glb] (h : ∀ c K σ, run c K σ → VW P n c (kQ P n Q K) σ) : ∀ (K : List Fr) (e : Ex) (σ : St), popK run Q K e σ → kQ P n Q K e σ
  | [], e, σ, hp => hp
  | .seq b :: K, e, σ, hp => by
    cases e with
    | normal => exact h b K σ hp
    | exit i => exact popK_ok h K _ σ hp
    | ret => exact popK_ok h K _ σ hp
  | .block id :: K, e, σ, hp => by
    cases e with
    | normal => exact popK_ok h K .normal σ hp
    | exit i =>
      simp only [popK] at hp
      show (match Nat.beq i id with | true => kQ P n Q K .normal σ | false => kQ P n Q K (.exit i) σ)
      split at hp
      · exact popK_ok h K _ σ hp
      · exact popK_ok h K _ σ hp
    | ret => exact popK_ok h K .ret σ hp

theorem Wk_ok (hT : TabOk (Pf ()) (Tf ())) (Q : Ex → St → Prop) : ∀ (f : Nat) (c : Code) (K : List Fr) (σ : St), Wk Pf Tf n Q f c K σ → VW (Pf ()) n c (kQ (Pf ()) n Q K) σ
  | 0, c, K, σ, h => h.elim
  | f + 1, c, K, σ, h => by
    have ih := Wk_ok hT Q f
    have pop := popK_ok ih K
    cases c with
    | skip => exact VW_skip (pop _ _ h)
    | region id ops draw =>
      have h2 : W Pf Tf n (.region id ops draw) (popK (Wk Pf Tf n Q f) Q K) σ := by
        cases draw <;> exact h
      exact (W_ok hT _ _ _ h2).mono fun e s => pop e s
    | seq a b => exact VW_seq (ih a _ σ h)
    | cond c a b =>
      simp only [Wk] at h
      split at h
      · rename_i t ht
        obtain ⟨h⟩ := h
        cases t with
        | true => exact VW_cond ht (fun e => ih a _ σ h) (fun e => by cases e)
        | false => exact VW_cond ht (fun e => by cases e) (fun e => ih b _ σ h)
      · exact h.elim
    | block id b => exact VW_block (ih b _ σ h)
    | loop b =>
      have h : LoopVW Pf n b (popK (Wk Pf Tf n Q f) Q K) σ := h
      rw [LoopVW_eq] at h
      exact (h inferInstance).mono fun e s => pop e s
    | exit id => exact VW_exit (pop _ _ h)
    | ret => exact VW_ret (pop _ _ h)
    | rangeFunc => exact h.elim
    | scope => exact h.elim
    | label => exact h.elim
    | goto => exact h.elim
    | refuse => exact h.elim

omit [Ops] [Lim] in
/-- out of the evaluated body -/
theorem VCalls_of_Wk {Tf : ∀ [Ops], Unit → Tab} (hT : ∀ [Ops], TabOk (Pf ()) (Tf ())) (f : Nat) {K : FuncId} {fn : Func} (hf : (Pf ()).funcs[K]? = some fn) (hb : fn.body.isSome = true) {args : List A} {H : AHeap} {R : A → AHeap → Prop} (hl : lenL args ≤ fn.ntmps)
    (h : ∀ [Ops] (n : Nat) (R' : A → AHeap → Prop), H.length = n → (∀ r H', R r H' → R' r H') → Wk Pf Tf n (retQ Tf fn.results.toList R') f (bodyOf fn) [] ⟨slots args fn.ntmps, H⟩) : VCalls (Pf ()) K args H R :=
  Ops.exists_one.elim fun inst => VCalls_of_VW (Tf := Tf) hT hf hb hl fun {_} => Wk_ok hT _ f _ [] _ (h _ R rfl fun _ _ h => h)

omit [Ops] [Lim] in
theorem vfunK {Pf : Unit → Program} {Tf : ∀ [Ops], Unit → Tab} (hT : ∀ [Ops], TabOk (Pf ()) (Tf ())) (f : Nat) {K : FuncId} {fn : Func} (hf : (Pf ()).funcs[K]? = some fn) (hb : fn.body.isSome = true) {args : List A} (ha : pureL args = true) {S : A → Prop} (hl : lenL args ≤ fn.ntmps)
    (h : ∀ [Ops] (R : A → AHeap → Prop), (∀ r H y, Frz H r y → S y → R r H) → Wk Pf Tf 0 (retQ Tf fn.results.toList R) f (bodyOf fn) [] ⟨slots args fn.ntmps, []⟩) : VFun (Pf ()) K args S :=
  fun H => VCalls.pure ha (VCalls_of_Wk (R := fun r H => ∃ y, Frz H r y ∧ S y) hT f hf hb hl fun {_} n R hn hR => by
    cases hn
    exact h R fun r H y h1 h2 => hR r H ⟨y, h1, h2⟩) (fun r H h => h) H

omit [Ops] [Lim] in
theorem loopK {Tf : ∀ [Ops], Unit → Tab} (hT : ∀ [Ops], TabOk (Pf ()) (Tf ())) (f : Nat) {c : Code} {Q : Ex → St → Prop} {σ : St} {Y : Type} (S : Y → St) (m : Y → Nat) (ok : Y → Prop) (y0 : Y) (h0 : ok y0) (hle : leS n (S y0) σ) (hb : ∀ y, belS (S y) = true)
    (round : ∀ [Ops] (y : Y) (Bk : St → Prop), ok y → (∀ y' s', m y' < m y → ok y' → leS n (S y') s' → Bk s') → Wk Pf Tf n (seqQ Bk Q) f c [] (S y)) : LoopVW Pf n c Q σ := by
  refine Ops.exists_one.elim fun inst => ⟨fun lim => ?_⟩
  refine VW_loop (fun k s => ∃ y, ok y ∧ m y = k ∧ s = S y) (m y0) ⟨S y0, hle, belS_ok (hb y0), y0, h0, rfl, rfl⟩ ?_
  rintro k s ⟨y, hy, rfl, rfl⟩
  refine Wk_ok (Tf := Tf) hT _ f _ [] _ (round y _ hy ?_)
  intro y' s' hm hy' hle'
  exact ⟨m y', S y', hm, hle', belS_ok (hb y'), y', hy', rfl, rfl⟩
end Go.VM
