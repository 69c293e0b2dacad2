/- The order of a region's operations, given beforehand and checked by the kernel: evaluation looks at one order. -/
import Derived.Test.YtcpdnjehmnbheaaDoorVY
set_option linter.unusedSimpArgs false
set_option linter.unusedVariables false
set_option linter.unusedSectionVars false
namespace Go.VM
open Ops

def getO : List Oper → Nat → Option Oper
  | [], _ => none
  | o :: r, i => match i with
    | 0 => some o
    | i + 1 => getO r i
theorem getO_eq : ∀ (l : List Oper) (i : Nat), getO l i = l[i]?
  | [], i => by simp [getO]
  | o :: r, 0 => rfl
  | o :: r, i + 1 => by simp [getO, getO_eq r i]

/-- the textual order -/
def upF : Nat → Nat → List Nat
  | _, 0 => []
  | k, n + 1 => k :: upF (k + 1) n

def lookN : List (Nat × List Nat) → Nat → Option (List Nat)
  | [], _ => none
  | x :: r, id => match Nat.beq x.1 id with
    | true => some x.2
    | false => lookN r id

/-- no other operation is ready -/
def soleB (listed : List Bool) (i : Nat) : Nat → List Oper → Bool
  | _, [] => true
  | j, y :: r => (match Nat.beq j i with | true => true | false => !rdy listed j y) && soleB listed i (j + 1) r
def noneB (listed : List Bool) : Nat → List Oper → Bool
  | _, [] => true
  | j, y :: r => !rdy listed j y && noneB listed (j + 1) r

def schedOk (T : Tab) (all : List Oper) : List Nat → List Bool → Bool
  | [], listed => noneB listed 0 all
  | i :: r, listed => match getO all i with
    | none => false
    | some o => (quiet2 T all listed i o || (rdy listed i o && soleB listed i 0 all)) && schedOk T all r (setL listed i true)

theorem soleB_spec {listed : List Bool} {i : Nat} : ∀ {l : List Oper} {k : Nat}, soleB listed i k l = true → ∀ j y, l[j]? = some y → k + j ≠ i → rdy listed (k + j) y = false
  | [], _, _, j, y, h, _ => by simp at h
  | z :: r, k, hf, j, y, h, hne => by
    simp only [soleB, Bool.and_eq_true] at hf
    cases j with
    | zero =>
      simp at h; subst h
      have hb : Nat.beq k i = false := by
        cases hb : Nat.beq k i with
        | false => rfl
        | true => exact absurd (Nat.eq_of_beq_eq_true hb) hne
      have := hf.1
      rw [hb] at this
      simpa using this
    | succ j =>
      rw [show k + (j + 1) = k + 1 + j by omega] at hne ⊢
      exact soleB_spec hf.2 j y (by simpa using h) hne
theorem noneB_spec {listed : List Bool} : ∀ {l : List Oper} {k : Nat}, noneB listed k l = true → ∀ j y, l[j]? = some y → rdy listed (k + j) y = false
  | [], _, _, j, y, h => by simp at h
  | z :: r, k, hf, j, y, h => by
    simp only [noneB, Bool.and_eq_true] at hf
    cases j with
    | zero => simp at h; subst h; simpa using hf.1
    | succ j =>
      rw [show k + (j + 1) = k + 1 + j by omega]
      exact noneB_spec hf.2 j y (by simpa using h)

section
variable [Ops] [Glb] [Lim]

def wsched (P : Unit → Program) (T : Unit → Tab) (all : List Oper) : List Nat → St → (St → Prop) → Prop
  | [], σ, K => K σ
  | i :: r, σ, K => match getO all i with
    | some o => wopG P T all o σ.tm σ.hp (fun v hp => wsched P T all r ⟨put σ.tm o.dst v, hp⟩ K)
    | none => False

theorem wany_of_sched {P : Unit → Program} {T : Unit → Tab} {all : List Oper} (he : ∀ t e xs ys Q Q', (T ()).eq t = some e → (∀ a, Q a → Q' a) → e xs ys Q → e xs ys Q') {K : St → Prop} : ∀ (l : List Nat) (listed : List Bool) (σ : St), schedOk (T ()) all l listed = true → wsched P T all l σ K → wany P T all l.length listed σ K
  | [], listed, σ, ho, h => ⟨fun i o hi => by simpa using noneB_spec ho i o hi, h⟩
  | i :: r, listed, σ, ho, h => by
    unfold schedOk at ho
    unfold wsched at h
    cases hg : getO all i with
    | none => rw [hg] at h; exact h.elim
    | some o =>
      rw [hg] at ho h
      simp only [Bool.and_eq_true, Bool.or_eq_true] at ho
      obtain ⟨ho, hr⟩ := ho
      have h1 : all[i]? = some o := by rw [← getO_eq]; exact hg
      rcases ho with h2 | ⟨h2, h3⟩
      · unfold quiet2 at h2
        split at h2
        · cases h2
        · rename_i hrd
          split at h2
          · cases h2
          · rename_i hc
            split at h2
            · cases h2
            · rename_i hdf
              have hc : cls (T ()) o.op ≠ 0 := fun e => by rw [e] at hc; cases hc
              obtain ⟨v, k1, k2, k3⟩ := one_wopG hc h
              refine wany_first2 (dep := depsL i [] all) he h1 r.length listed σ.tm σ.hp ?_ (depFree_spec hdf) ?_ hrd ⟨k2, k3⟩ (wany_of_sched he r _ _ hr k1)
              · intro j y hj hd
                exact depsL_spec i all [] j y hj (by simpa using hd)
              · intro j y hj hne hun hon
                exact freeD_spec h2 j y hj (by simpa using hne) (by simpa using hun) (by simpa using hon)
      · refine ⟨fun hno => ?_, fun j y hj hrj => ?_⟩
        · rw [hno i o h1] at h2; cases h2
        · by_cases hji : j = i
          · subst hji
            rw [h1] at hj; cases hj
            exact wopG_mono he (fun v hp hk => wany_of_sched he r _ _ hr hk) h
          · have := soleB_spec h3 j y hj (by simpa using hji)
            rw [Nat.zero_add, hrj] at this
            cases this

/-- the schedules of a code's regions are fine -/
def ordC (T : Tab) (ord : List (Nat × List Nat)) : Code → Bool
  | .region id ops draw => match draw with
    | false => true
    | true => match lookN ord id with
      | some l => Nat.beq l.length ops.toList.length && schedOk T ops.toList l (noneL ops.toList)
      | none => true
  | .seq a b => ordC T ord a && ordC T ord b
  | .cond _ a b => ordC T ord a && ordC T ord b
  | .block _ b => ordC T ord b
  | .loop b => ordC T ord b
  | _ => true

def Wo (P : Unit → Program) (T : Unit → Tab) (n : Nat) (ord : List (Nat × List Nat)) (Q : Ex → St → Prop) : Nat → Code → List Fr → St → Prop
  | 0, _, _, _ => False
  | f + 1, c, K, σ => match c with
    | .skip => popK (Wo P T n ord Q f) Q K .normal σ
    | .region id ops draw => match draw with
      | false => wops P T ops.toList ops.toList σ (popK (Wo P T n ord Q f) Q K .normal)
      | true => match lookN ord id with
        | some l => wsched P T ops.toList l σ (popK (Wo P T n ord Q f) Q K .normal)
        | none => wdraw P T ops.toList (lenL ops.toList) (noneL ops.toList) σ (popK (Wo P T n ord Q f) Q K .normal)
    | .seq a b => Wo P T n ord Q f a (.seq b :: K) σ
    | .cond c a b => match ev σ.tm c with
      | .d (.bool t) => Later (fun _ => match t with
        | true => Wo P T n ord Q f a K σ
        | false => Wo P T n ord Q f b K σ)
      | _ => False
    | .block id b => Wo P T n ord Q f b (.block id :: K) σ
    | .loop b => LoopVW P n b (popK (Wo P T n ord Q f) Q K) σ
    | .exit id => popK (Wo P T n ord Q f) Q K (.exit id) σ
    | .ret => popK (Wo P T n ord Q f) Q K .ret σ
    | _ => False

variable {P : Program} {T : Tab} {Pf : Unit → Program} {Tf : Unit → Tab} {n : Nat} {ord : List (Nat × List Nat)}

omit [Ops] [Glb] in
theorem popK_ok2 {Q : Ex → St → Prop} {run : Code → List Fr → St → Prop} [Ops] [Glb] (hok : Code → Prop) (h : ∀ c K σ, hok c → (∀ b, Fr.seq b ∈ K → hok b) → run c K σ → VW P n c (kQ P n Q K) σ) : ∀ (K : List Fr) (e : Ex) (σ : St), (∀ b, Fr.seq b ∈ K → hok b) → popK run Q K e σ → kQ P n Q K e σ
  | [], e, σ, _, hp => hp
  | .seq b :: K, e, σ, hK, hp => by
    have hK' : ∀ b, Fr.seq b ∈ K → hok b := fun b hb => hK b (by simp [hb])
    cases e with
    | normal => exact h b K σ (hK b (by simp)) hK' hp
    | exit i => exact popK_ok2 hok h K _ σ hK' hp
    | ret => exact popK_ok2 hok h K _ σ hK' hp
  | .block id :: K, e, σ, hK, hp => by
    have hK' : ∀ b, Fr.seq b ∈ K → hok b := fun b hb => hK b (by simp [hb])
    cases e with
    | normal => exact popK_ok2 hok h K .normal σ hK' hp
    | exit i =>
      simp only [popK] at hp
      show (match Nat.beq i id with | true => kQ P n Q K .normal σ | false => kQ P n Q K (.exit i) σ)
      cases hb : Nat.beq i id with
      | true => rw [hb] at hp; exact popK_ok2 hok h K .normal σ hK' hp
      | false => rw [hb] at hp; exact popK_ok2 hok h K (.exit i) σ hK' hp
    | ret => exact popK_ok2 hok h K .ret σ hK' hp

theorem Wo_ok (hT : TabOk (Pf ()) (Tf ())) (Q : Ex → St → Prop) : ∀ (f : Nat) (c : Code) (K : List Fr) (σ : St), ordC (Tf ()) ord c = true → (∀ b, Fr.seq b ∈ K → ordC (Tf ()) ord b = true) → Wo Pf Tf n ord Q f c K σ → VW (Pf ()) n c (kQ (Pf ()) n Q K) σ
  | 0, c, K, σ, _, _, h => h.elim
  | f + 1, c, K, σ, hc, hK, h => by
    have ih := Wo_ok hT Q f
    have pop := fun e s => popK_ok2 (hok := fun b => ordC (Tf ()) ord b = true) ih K e s hK
    cases c with
    | skip => exact VW_skip (pop _ _ h)
    | region id ops draw =>
      cases draw with
      | false =>
        have h2 : W Pf Tf n (.region id ops false) (popK (Wo Pf Tf n ord Q f) Q K) σ := h
        exact (W_ok hT _ _ _ h2).mono fun e s => pop e s
      | true =>
        simp only [Wo] at h
        simp only [ordC] at hc
        cases hl : lookN ord id with
        | none =>
          rw [hl] at h
          have h2 : W Pf Tf n (.region id ops true) (popK (Wo Pf Tf n ord Q f) Q K) σ := h
          exact (W_ok hT _ _ _ h2).mono fun e s => pop e s
        | some l =>
          rw [hl] at h hc
          simp only [Bool.and_eq_true, Nat.beq_eq] at hc
          have h1 := wany_of_sched hT.mono l (noneL ops.toList) σ hc.2 h
          rw [hc.1] at h1
          intro E ι I a w hn hi
          refine wp_region_any hT.mixed ?_
          have := wany_ok hT (E := E) (ops := ops) (Q := Post E (kQ (Pf ()) n Q K)) (K := popK (Wo Pf Tf n ord Q f) Q K .normal) (fun ι I a w σ h1 h2 => ⟨.normal, σ, ι, I, .normal, pop _ _ h1, h2⟩) _ _ (hi.drawn (w.drawn + 1)) h1
          rw [noneL_eq] at this
          simpa using this
    | seq a b =>
      simp only [ordC, Bool.and_eq_true] at hc
      exact VW_seq (ih a _ σ hc.1 (fun x hx => by
        rcases List.mem_cons.1 hx with e | hx
        · cases e; exact hc.2
        · exact hK x hx) h)
    | cond c a b =>
      simp only [ordC, Bool.and_eq_true] at hc
      simp only [Wo] at h
      split at h
      · rename_i t ht
        obtain ⟨h⟩ := h
        cases t with
        | true => exact VW_cond ht (fun e => ih a _ σ hc.1 hK h) (fun e => by cases e)
        | false => exact VW_cond ht (fun e => by cases e) (fun e => ih b _ σ hc.2 hK h)
      · exact h.elim
    | block id b => exact VW_block (ih b _ σ hc (fun x hx => by
        rcases List.mem_cons.1 hx with e | hx
        · cases e
        · exact hK x hx) h)
    | loop b =>
      have h : LoopVW Pf n b (popK (Wo Pf Tf n ord Q f) Q K) σ := h
      rw [LoopVW_eq] at h
      exact (h inferInstance).mono fun e s => pop e s
    | exit id => exact VW_exit (pop _ _ h)
    | ret => exact VW_ret (pop _ _ h)
    | rangeFunc => exact h.elim
    | scope => exact h.elim
    | label => exact h.elim
    | goto => exact h.elim
    | refuse => exact h.elim

omit [Ops] [Lim] in
theorem VCalls_of_Wo {Tf : ∀ [Ops], Unit → Tab} (hT : ∀ [Ops], TabOk (Pf ()) (Tf ())) (ord : List (Nat × List Nat)) (f : Nat) {K : FuncId} {fn : Func} (hf : (Pf ()).funcs[K]? = some fn) (hb : fn.body.isSome = true) (ho : ∀ [Ops], ordC (Tf ()) ord (bodyOf fn) = true) {args : List A} {H : AHeap} {R : A → AHeap → Prop} (hl : lenL args ≤ fn.ntmps)
    (h : ∀ [Ops] (n : Nat) (R' : A → AHeap → Prop), H.length = n → (∀ r H', R r H' → R' r H') → Wo Pf Tf n ord (retQ Tf fn.results.toList R') f (bodyOf fn) [] ⟨slots args fn.ntmps, H⟩) : VCalls (Pf ()) K args H R :=
  Ops.exists_one.elim fun inst => VCalls_of_VW (Tf := Tf) hT hf hb hl fun {_} => Wo_ok hT _ f _ [] _ ho (fun b hb => absurd hb (by simp)) (h _ R rfl fun _ _ h => h)

omit [Ops] [Lim] in
theorem vfunO {Pf : Unit → Program} {Tf : ∀ [Ops], Unit → Tab} (hT : ∀ [Ops], TabOk (Pf ()) (Tf ())) (ord : List (Nat × List Nat)) (f : Nat) {K : FuncId} {fn : Func} (hf : (Pf ()).funcs[K]? = some fn) (hb : fn.body.isSome = true) (ho : ∀ [Ops], ordC (Tf ()) ord (bodyOf fn) = true) {args : List A} (ha : pureL args = true) {S : A → Prop} (hl : lenL args ≤ fn.ntmps)
    (h : ∀ [Ops] (R : A → AHeap → Prop), (∀ r H y, Frz H r y → S y → R r H) → Wo Pf Tf 0 ord (retQ Tf fn.results.toList R) f (bodyOf fn) [] ⟨slots args fn.ntmps, []⟩) : VFun (Pf ()) K args S :=
  fun H => VCalls.pure ha (VCalls_of_Wo (R := fun r H => ∃ y, Frz H r y ∧ S y) hT ord f hf hb ho hl fun {_} n R hn hR => by
    cases hn
    exact h R fun r H y h1 h2 => hR r H ⟨y, h1, h2⟩) (fun r H h => h) H

omit [Ops] [Lim] in
theorem loopO {Tf : ∀ [Ops], Unit → Tab} (hT : ∀ [Ops], TabOk (Pf ()) (Tf ())) (ord : List (Nat × List Nat)) (f : Nat) {c : Code} {Q : Ex → St → Prop} {σ : St} {Y : Type} (S : Y → St) (m : Y → Nat) (ok : Y → Prop) (y0 : Y) (h0 : ok y0) (ho : ∀ [Ops], ordC (Tf ()) ord c = true) (hle : leS n (S y0) σ) (hb : ∀ y, belS (S y) = true)
    (round : ∀ [Ops] (y : Y) (Bk : St → Prop), ok y → (∀ y' s', m y' < m y → ok y' → leS n (S y') s' → Bk s') → Wo Pf Tf n ord (seqQ Bk Q) f c [] (S y)) : LoopVW Pf n c Q σ := by
  refine Ops.exists_one.elim fun inst => ⟨fun lim => ?_⟩
  refine VW_loop (fun k s => ∃ y, ok y ∧ m y = k ∧ s = S y) (m y0) ⟨S y0, hle, belS_ok (hb y0), y0, h0, rfl, rfl⟩ ?_
  rintro k s ⟨y, hy, rfl, rfl⟩
  refine Wo_ok (Tf := Tf) hT _ f _ [] _ ho (fun b hb => absurd hb (by simp)) (round y _ hy ?_)
  intro y' s' hm hy' hle'
  exact ⟨m y', S y', hm, hle', belS_ok (hb y'), y', hy', rfl, rfl⟩
end
end Go.VM
