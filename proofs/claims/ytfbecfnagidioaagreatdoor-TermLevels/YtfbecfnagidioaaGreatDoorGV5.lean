/- Part of the proof: VZ, VF2, VF3, VF4, VO2, M1, M2, M3, M4, M5, M8, M6, M7, VZ3. -/
import Derived.Below
import Derived.Deep.Slices
import Derived.Test.YtfbecfnagidioaaGreatDoorGV4
import Derived.Test.YtfbecfnagidioaaGreatDoorGV1
/- The order of a region's operations, given beforehand and checked by the kernel: evaluation looks at one order. -/
set_option linter.unusedSimpArgs false
set_option linter.unusedVariables false
set_option linter.unusedSectionVars false
namespace Go.VM
open Ops

def getO : List Oper → Nat → Option Oper
  | [], _ => none
  | o :: r, i => match i with
    | 0 => some o
    | i + 1 => getO r i
theorem getO_eq : ∀ (l : List Oper) (i : Nat), getO l i = l[i]?
  | [], i => by simp [getO]
  | o :: r, 0 => rfl
  | o :: r, i + 1 => by simp [getO, getO_eq r i]

/-- the textual order -/
def upF : Nat → Nat → List Nat
  | _, 0 => []
  | k, n + 1 => k :: upF (k + 1) n

def lookN : List (Nat × List Nat) → Nat → Option (List Nat)
  | [], _ => none
  | x :: r, id => match Nat.beq x.1 id with
    | true => some x.2
    | false => lookN r id

/-- no other operation is ready -/
def soleB (listed : List Bool) (i : Nat) : Nat → List Oper → Bool
  | _, [] => true
  | j, y :: r => (match Nat.beq j i with | true => true | false => !rdy listed j y) && soleB listed i (j + 1) r
def noneB (listed : List Bool) : Nat → List Oper → Bool
  | _, [] => true
  | j, y :: r => !rdy listed j y && noneB listed (j + 1) r

def schedOk (T : Tab) (all : List Oper) : List Nat → List Bool → Bool
  | [], listed => noneB listed 0 all
  | i :: r, listed => match getO all i with
    | none => false
    | some o => (quiet2 T all listed i o || (rdy listed i o && soleB listed i 0 all)) && schedOk T all r (setL listed i true)

theorem soleB_spec {listed : List Bool} {i : Nat} : ∀ {l : List Oper} {k : Nat}, soleB listed i k l = true → ∀ j y, l[j]? = some y → k + j ≠ i → rdy listed (k + j) y = false
  | [], _, _, j, y, h, _ => by simp at h
  | z :: r, k, hf, j, y, h, hne => by
    simp only [soleB, Bool.and_eq_true] at hf
    cases j with
    | zero =>
      simp at h; subst h
      have hb : Nat.beq k i = false := by
        cases hb : Nat.beq k i with
        | false => rfl
        | true => exact absurd (Nat.eq_of_beq_eq_true hb) hne
      have := hf.1
      rw [hb] at this
      simpa using this
    | succ j =>
      rw [show k + (j + 1) = k + 1 + j by omega] at hne ⊢
      exact soleB_spec hf.2 j y (by simpa using h) hne
theorem noneB_spec {listed : List Bool} : ∀ {l : List Oper} {k : Nat}, noneB listed k l = true → ∀ j y, l[j]? = some y → rdy listed (k + j) y = false
  | [], _, _, j, y, h => by simp at h
  | z :: r, k, hf, j, y, h => by
    simp only [noneB, Bool.and_eq_true] at hf
    cases j with
    | zero => simp at h; subst h; simpa using hf.1
    | succ j =>
      rw [show k + (j + 1) = k + 1 + j by omega]
      exact noneB_spec hf.2 j y (by simpa using h)

section
variable [Ops] [Glb] [Lim]

def wsched (P : Unit → Program) (T : Unit → Tab) (all : List Oper) : List Nat → St → (St → Prop) → Prop
  | [], σ, K => K σ
  | i :: r, σ, K => match getO all i with
    | some o => wopG P T all o σ.tm σ.hp (fun v hp => wsched P T all r ⟨put σ.tm o.dst v, hp⟩ K)
    | none => False

theorem wany_of_sched {P : Unit → Program} {T : Unit → Tab} {all : List Oper} (he : ∀ t e xs ys Q Q', (T ()).eq t = some e → (∀ a, Q a → Q' a) → e xs ys Q → e xs ys Q') {K : St → Prop} : ∀ (l : List Nat) (listed : List Bool) (σ : St), schedOk (T ()) all l listed = true → wsched P T all l σ K → wany P T all l.length listed σ K
  | [], listed, σ, ho, h => ⟨fun i o hi => by simpa using noneB_spec ho i o hi, h⟩
  | i :: r, listed, σ, ho, h => by
    unfold schedOk at ho
    unfold wsched at h
    cases hg : getO all i with
    | none => rw [hg] at h; exact h.elim
    | some o =>
      rw [hg] at ho h
      simp only [Bool.and_eq_true, Bool.or_eq_true] at ho
      obtain ⟨ho, hr⟩ := ho
      have h1 : all[i]? = some o := by rw [← getO_eq]; exact hg
      rcases ho with h2 | ⟨h2, h3⟩
      · unfold quiet2 at h2
        split at h2
        · cases h2
        · rename_i hrd
          split at h2
          · cases h2
          · rename_i hc
            split at h2
            · cases h2
            · rename_i hdf
              have hc : cls (T ()) o.op ≠ 0 := fun e => by rw [e] at hc; cases hc
              obtain ⟨v, k1, k2, k3⟩ := one_wopG hc h
              refine wany_first2 (dep := depsL i [] all) he h1 r.length listed σ.tm σ.hp ?_ (depFree_spec hdf) ?_ hrd ⟨k2, k3⟩ (wany_of_sched he r _ _ hr k1)
              · intro j y hj hd
                exact depsL_spec i all [] j y hj (by simpa using hd)
              · intro j y hj hne hun hon
                exact freeD_spec h2 j y hj (by simpa using hne) (by simpa using hun) (by simpa using hon)
      · refine ⟨fun hno => ?_, fun j y hj hrj => ?_⟩
        · rw [hno i o h1] at h2; cases h2
        · by_cases hji : j = i
          · subst hji
            rw [h1] at hj; cases hj
            exact wopG_mono he (fun v hp hk => wany_of_sched he r _ _ hr hk) h
          · have := soleB_spec h3 j y hj (by simpa using hji)
            rw [Nat.zero_add, hrj] at this
            cases this

/-- the schedules of a code's regions are fine -/
def ordC (T : Tab) (ord : List (Nat × List Nat)) : Code → Bool
  | .region id ops draw => match draw with
    | false => true
    | true => match lookN ord id with
      | some l => Nat.beq l.length ops.toList.length && schedOk T ops.toList l (noneL ops.toList)
      | none => true
  | .seq a b => ordC T ord a && ordC T ord b
  | .cond _ a b => ordC T ord a && ordC T ord b
  | .block _ b => ordC T ord b
  | .loop b => ordC T ord b
  | _ => true

def Wo (P : Unit → Program) (T : Unit → Tab) (n : Nat) (ord : List (Nat × List Nat)) (Q : Ex → St → Prop) : Nat → Code → List Fr → St → Prop
  | 0, _, _, _ => False
  | f + 1, c, K, σ => match c with
    | .skip => popK (Wo P T n ord Q f) Q K .normal σ
    | .region id ops draw => match draw with
      | false => wops P T ops.toList ops.toList σ (popK (Wo P T n ord Q f) Q K .normal)
      | true => match lookN ord id with
        | some l => wsched P T ops.toList l σ (popK (Wo P T n ord Q f) Q K .normal)
        | none => wdraw P T ops.toList (lenL ops.toList) (noneL ops.toList) σ (popK (Wo P T n ord Q f) Q K .normal)
    | .seq a b => Wo P T n ord Q f a (.seq b :: K) σ
    | .cond c a b => match ev σ.tm c with
      | .d (.bool t) => Later (fun _ => match t with
        | true => Wo P T n ord Q f a K σ
        | false => Wo P T n ord Q f b K σ)
      | _ => False
    | .block id b => Wo P T n ord Q f b (.block id :: K) σ
    | .loop b => LoopVW P n b (popK (Wo P T n ord Q f) Q K) σ
    | .exit id => popK (Wo P T n ord Q f) Q K (.exit id) σ
    | .ret => popK (Wo P T n ord Q f) Q K .ret σ
    | _ => False

variable {P : Program} {T : Tab} {Pf : Unit → Program} {Tf : Unit → Tab} {n : Nat} {ord : List (Nat × List Nat)}

omit [Ops] [Glb] in
theorem popK_ok2 {Q : Ex → St → Prop} {run : Code → List Fr → St → Prop} [Ops] [Glb] (hok : Code → Prop) (h : ∀ c K σ, hok c → (∀ b, Fr.seq b ∈ K → hok b) → run c K σ → VW P n c (kQ P n Q K) σ) : ∀ (K : List Fr) (e : Ex) (σ : St), (∀ b, Fr.seq b ∈ K → hok b) → popK run Q K e σ → kQ P n Q K e σ
  | [], e, σ, _, hp => hp
  | .seq b :: K, e, σ, hK, hp => by
    have hK' : ∀ b, Fr.seq b ∈ K → hok b := fun b hb => hK b (by simp [hb])
    cases e with
    | normal => exact h b K σ (hK b (by simp)) hK' hp
    | exit i => exact popK_ok2 hok h K _ σ hK' hp
    | ret => exact popK_ok2 hok h K _ σ hK' hp
  | .block id :: K, e, σ, hK, hp => by
    have hK' : ∀ b, Fr.seq b ∈ K → hok b := fun b hb => hK b (by simp [hb])
    cases e with
    | normal => exact popK_ok2 hok h K .normal σ hK' hp
    | exit i =>
      simp only [popK] at hp
      show (match Nat.beq i id with | true => kQ P n Q K .normal σ | false => kQ P n Q K (.exit i) σ)
      cases hb : Nat.beq i id with
      | true => rw [hb] at hp; exact popK_ok2 hok h K .normal σ hK' hp
      | false => rw [hb] at hp; exact popK_ok2 hok h K (.exit i) σ hK' hp
    | ret => exact popK_ok2 hok h K .ret σ hK' hp

theorem Wo_ok (hT : TabOk (Pf ()) (Tf ())) (Q : Ex → St → Prop) : ∀ (f : Nat) (c : Code) (K : List Fr) (σ : St), ordC (Tf ()) ord c = true → (∀ b, Fr.seq b ∈ K → ordC (Tf ()) ord b = true) → Wo Pf Tf n ord Q f c K σ → VW (Pf ()) n c (kQ (Pf ()) n Q K) σ
  | 0, c, K, σ, _, _, h => h.elim
  | f + 1, c, K, σ, hc, hK, h => by
    have ih := Wo_ok hT Q f
    have pop := fun e s => popK_ok2 (hok := fun b => ordC (Tf ()) ord b = true) ih K e s hK
    cases c with
    | skip => exact VW_skip (pop _ _ h)
    | region id ops draw =>
      cases draw with
      | false =>
        have h2 : W Pf Tf n (.region id ops false) (popK (Wo Pf Tf n ord Q f) Q K) σ := h
        exact (W_ok hT _ _ _ h2).mono fun e s => pop e s
      | true =>
        simp only [Wo] at h
        simp only [ordC] at hc
        cases hl : lookN ord id with
        | none =>
          rw [hl] at h
          have h2 : W Pf Tf n (.region id ops true) (popK (Wo Pf Tf n ord Q f) Q K) σ := h
          exact (W_ok hT _ _ _ h2).mono fun e s => pop e s
        | some l =>
          rw [hl] at h hc
          simp only [Bool.and_eq_true, Nat.beq_eq] at hc
          have h1 := wany_of_sched hT.mono l (noneL ops.toList) σ hc.2 h
          rw [hc.1] at h1
          intro E ι I a w hn hi
          refine wp_region_any hT.mixed ?_
          have := wany_ok hT (E := E) (ops := ops) (Q := Post E (kQ (Pf ()) n Q K)) (K := popK (Wo Pf Tf n ord Q f) Q K .normal) (fun ι I a w σ h1 h2 => ⟨.normal, σ, ι, I, .normal, pop _ _ h1, h2⟩) _ _ (hi.drawn (w.drawn + 1)) h1
          rw [noneL_eq] at this
          simpa using this
    | seq a b =>
      simp only [ordC, Bool.and_eq_true] at hc
      exact VW_seq (ih a _ σ hc.1 (fun x hx => by
        rcases List.mem_cons.1 hx with e | hx
        · cases e; exact hc.2
        · exact hK x hx) h)
    | cond c a b =>
      simp only [ordC, Bool.and_eq_true] at hc
      simp only [Wo] at h
      split at h
      · rename_i t ht
        obtain ⟨h⟩ := h
        cases t with
        | true => exact VW_cond ht (fun e => ih a _ σ hc.1 hK h) (fun e => by cases e)
        | false => exact VW_cond ht (fun e => by cases e) (fun e => ih b _ σ hc.2 hK h)
      · exact h.elim
    | block id b => exact VW_block (ih b _ σ hc (fun x hx => by
        rcases List.mem_cons.1 hx with e | hx
        · cases e
        · exact hK x hx) h)
    | loop b =>
      have h : LoopVW Pf n b (popK (Wo Pf Tf n ord Q f) Q K) σ := h
      rw [LoopVW_eq] at h
      exact (h inferInstance).mono fun e s => pop e s
    | exit id => exact VW_exit (pop _ _ h)
    | ret => exact VW_ret (pop _ _ h)
    | rangeFunc => exact h.elim
    | scope => exact h.elim
    | label => exact h.elim
    | goto => exact h.elim
    | refuse => exact h.elim

omit [Ops] [Lim] in
theorem VCalls_of_Wo {Tf : ∀ [Ops], Unit → Tab} (hT : ∀ [Ops], TabOk (Pf ()) (Tf ())) (ord : List (Nat × List Nat)) (f : Nat) {K : FuncId} {fn : Func} (hf : (Pf ()).funcs[K]? = some fn) (hb : fn.body.isSome = true) (ho : ∀ [Ops], ordC (Tf ()) ord (bodyOf fn) = true) {args : List A} {H : AHeap} {R : A → AHeap → Prop} (hl : lenL args ≤ fn.ntmps)
    (h : ∀ [Ops] (n : Nat) (R' : A → AHeap → Prop), H.length = n → (∀ r H', R r H' → R' r H') → Wo Pf Tf n ord (retQ Tf fn.results.toList R') f (bodyOf fn) [] ⟨slots args fn.ntmps, H⟩) : VCalls (Pf ()) K args H R :=
  Ops.exists_one.elim fun inst => VCalls_of_VW (Tf := Tf) hT hf hb hl fun {_} => Wo_ok hT _ f _ [] _ ho (fun b hb => absurd hb (by simp)) (h _ R rfl fun _ _ h => h)

omit [Ops] [Lim] in
theorem vfunO {Pf : Unit → Program} {Tf : ∀ [Ops], Unit → Tab} (hT : ∀ [Ops], TabOk (Pf ()) (Tf ())) (ord : List (Nat × List Nat)) (f : Nat) {K : FuncId} {fn : Func} (hf : (Pf ()).funcs[K]? = some fn) (hb : fn.body.isSome = true) (ho : ∀ [Ops], ordC (Tf ()) ord (bodyOf fn) = true) {args : List A} (ha : pureL args = true) {S : A → Prop} (hl : lenL args ≤ fn.ntmps)
    (h : ∀ [Ops] (R : A → AHeap → Prop), (∀ r H y, Frz H r y → S y → R r H) → Wo Pf Tf 0 ord (retQ Tf fn.results.toList R) f (bodyOf fn) [] ⟨slots args fn.ntmps, []⟩) : VFun (Pf ()) K args S :=
  fun H => VCalls.pure ha (VCalls_of_Wo (R := fun r H => ∃ y, Frz H r y ∧ S y) hT ord f hf hb ho hl fun {_} n R hn hR => by
    cases hn
    exact h R fun r H y h1 h2 => hR r H ⟨y, h1, h2⟩) (fun r H h => h) H

omit [Ops] [Lim] in
theorem loopO {Tf : ∀ [Ops], Unit → Tab} (hT : ∀ [Ops], TabOk (Pf ()) (Tf ())) (ord : List (Nat × List Nat)) (f : Nat) {c : Code} {Q : Ex → St → Prop} {σ : St} {Y : Type} (S : Y → St) (m : Y → Nat) (ok : Y → Prop) (y0 : Y) (h0 : ok y0) (ho : ∀ [Ops], ordC (Tf ()) ord c = true) (hle : leS n (S y0) σ) (hb : ∀ y, belS (S y) = true)
    (round : ∀ [Ops] (y : Y) (Bk : St → Prop), ok y → (∀ y' s', m y' < m y → ok y' → leS n (S y') s' → Bk s') → Wo Pf Tf n ord (seqQ Bk Q) f c [] (S y)) : LoopVW Pf n c Q σ := by
  refine Ops.exists_one.elim fun inst => ⟨fun lim => ?_⟩
  refine VW_loop (fun k s => ∃ y, ok y ∧ m y = k ∧ s = S y) (m y0) ⟨S y0, hle, belS_ok (hb y0), y0, h0, rfl, rfl⟩ ?_
  rintro k s ⟨y, hy, rfl, rfl⟩
  refine Wo_ok (Tf := Tf) hT _ f _ [] _ ho (fun b hb => absurd hb (by simp)) (round y _ hy ?_)
  intro y' s' hm hy' hle'
  exact ⟨m y', S y', hm, hle', belS_ok (hb y'), y', hy', rfl, rfl⟩
end
/-- the table, with the slots of variables that nobody writes -/
def fzT (l : List Nat) (T : Tab) : Tab := { T with fz := fun d => hasN l d }
theorem TabOk.frz [Ops] [Glb] {P : Program} {T : Tab} (h : TabOk P T) (l : List Nat) : TabOk P (fzT l T) := ⟨h.ti, h.eq, h.fn, h.mixed, h.bld, h.mono⟩
end Go.VM

/- A contract over a few objects, used over any heap: the objects stand at the places es, new ones come behind all others. -/
set_option linter.unusedSimpArgs false
set_option linter.unusedVariables false
set_option linter.unusedSectionVars false
namespace Go.VM

def ix : List Nat → Nat → Nat → Nat
  | [], m, i => m + i
  | x :: r, m, i => match i with
    | 0 => x
    | i + 1 => ix r m i
def renH (e : Nat → Nat) : AHeap → AHeap
  | [] => []
  | x :: r => renO e x :: renH e r
def appL {α : Type} : List α → List α → List α
  | [], l => l
  | x :: r, l => x :: appL r l
def putO (e : Nat → Nat) : AHeap → List Nat → AHeap → AHeap
  | H, [], r => appL H (renH e r)
  | H, _ :: _, [] => H
  | H, x :: es, y :: r => putO e (setL H x (renO e y)) es r
def objsAt (H : AHeap) (e : Nat → Nat) : List Nat → AHeap → Prop
  | [], [] => True
  | x :: es, y :: r => H[x]? = some (renO e y) ∧ objsAt H e es r
  | _, _ => False
def noN (x : Nat) : List Nat → Bool
  | [] => true
  | y :: r => !Nat.beq x y && noN x r
def nodN : List Nat → Bool
  | [] => true
  | x :: r => noN x r && nodN r
def fzH : AHeap → Prop
  | [] => True
  | x :: r => (match x with | .arr m _ _ fz => fz ≤ m | _ => True) ∧ fzH r

theorem appL_eq {α : Type} : ∀ l r : List α, appL l r = l ++ r
  | [], r => rfl
  | x :: l, r => by simp [appL, appL_eq l r]
theorem renH_eq (e : Nat → Nat) : ∀ l, renH e l = l.map (renO e)
  | [] => rfl
  | x :: r => by simp [renH, renH_eq e r]
theorem ix_lt : ∀ {es : List Nat} {m i : Nat} (h : i < es.length), ix es m i = es[i]
  | x :: r, m, 0, h => rfl
  | x :: r, m, i + 1, h => by simpa [ix] using ix_lt (es := r) (m := m) (i := i) (by simpa using h)
theorem ix_ge : ∀ {es : List Nat} {m i : Nat} (h : es.length ≤ i), ix es m i = m + (i - es.length)
  | [], m, i, h => rfl
  | x :: r, m, 0, h => by simp at h
  | x :: r, m, i + 1, h => by
    have := ix_ge (es := r) (m := m) (i := i) (by simpa using h)
    simp only [ix, this, List.length_cons]; omega
theorem noN_spec {x : Nat} : ∀ {r : List Nat}, noN x r = true → ∀ (i : Nat) (h : i < r.length), r[i] ≠ x
  | y :: r, hn, i, h => by
    simp only [noN, Bool.and_eq_true, Bool.not_eq_true'] at hn
    cases i with
    | zero =>
      intro e
      have : Nat.beq x y = true := by rw [← e]; simp
      rw [this] at hn; exact absurd hn.1 (by simp)
    | succ i => simpa using noN_spec hn.2 i (by simpa using h)
theorem nodN_spec : ∀ {es : List Nat}, nodN es = true → ∀ (i j : Nat) (hi : i < es.length) (hj : j < es.length), es[i] = es[j] → i = j
  | x :: r, hn, i, j, hi, hj, e => by
    simp only [nodN, Bool.and_eq_true] at hn
    match i, j with
    | 0, 0 => rfl
    | 0, j + 1 => exact absurd e.symm (noN_spec hn.1 j (by simpa using hj))
    | i + 1, 0 => exact absurd e (noN_spec hn.1 i (by simpa using hi))
    | i + 1, j + 1 =>
      have := nodN_spec hn.2 i j (by simpa using hi) (by simpa using hj) (by simpa using e)
      omega
theorem objsAt_spec {H : AHeap} {e : Nat → Nat} : ∀ {es : List Nat} {H1 : AHeap}, objsAt H e es H1 → es.length = H1.length ∧ ∀ (i : Nat) (hi : i < es.length) (hj : i < H1.length), H[es[i]]? = some (renO e H1[i])
  | [], [], _ => ⟨rfl, fun i hi => absurd hi (by simp)⟩
  | x :: es, y :: r, h => by
    obtain ⟨h1, h2⟩ := h
    obtain ⟨h3, h4⟩ := objsAt_spec h2
    refine ⟨by simp [h3], fun i hi hj => ?_⟩
    cases i with
    | zero => exact h1
    | succ i => simpa using h4 i (by simpa using hi) (by simpa using hj)
  | [], _ :: _, h => h.elim
  | _ :: _, [], h => h.elim
section
variable [Glb]
theorem putO_spec (e : Nat → Nat) : ∀ (es : List Nat) (H H2 : AHeap), es.length ≤ H2.length → (∀ x, x ∈ es → x < H.length) → nodN es = true →
    (putO e H es H2).length = H.length + (H2.length - es.length) ∧ (∀ (i : Nat) (h : i < es.length) (h' : i < H2.length), (putO e H es H2)[es[i]]? = some (renO e H2[i])) ∧
    (∀ (i : Nat) (h' : i < H2.length), es.length ≤ i → (putO e H es H2)[H.length + (i - es.length)]? = some (renO e H2[i])) ∧ (∀ o, o < H.length → o ∉ es → (putO e H es H2)[o]? = H[o]?)
  | [], H, H2, _, _, _ => by
    simp only [putO, appL_eq, renH_eq]
    refine ⟨by simp, fun i h => absurd h (by simp), fun i h' _ => ?_, fun o ho _ => ?_⟩
    · rw [List.getElem?_append_right (by simp)]
      simp [h']
    · rw [List.getElem?_append_left ho]
  | x :: es, H, y :: r, hl, hx, hn => by
    simp only [nodN, Bool.and_eq_true] at hn
    simp only [putO]
    have hset : setL H x (renO e y) = H.set x (renO e y) := by
      refine Ops.exists_one.elim fun inst => ?_
      let lim : Lim := ⟨fun _ _ => True⟩
      exact setL_eq _ _ _
    rw [hset]
    obtain ⟨p1, p2, p3, p4⟩ := putO_spec e es (H.set x (renO e y)) r (by simpa using hl) (fun z hz => by simpa using hx z (by simp [hz])) hn.2
    have hnot : x ∉ es := fun hm => by
      obtain ⟨i, hi, e'⟩ := List.getElem_of_mem hm
      exact noN_spec hn.1 i hi e'
    simp only [List.length_set] at p1 p3 p4
    refine ⟨by rw [p1]; simp, fun i h h' => ?_, fun i h' h => ?_, fun o ho hno => ?_⟩
    · cases i with
      | zero =>
        simp only [List.getElem_cons_zero]
        rw [p4 x (hx x (by simp)) hnot]
        simp [hx x (by simp)]
      | succ i => simpa using p2 i (by simpa using h) (by simpa using h')
    · cases i with
      | zero => simp at h
      | succ i =>
        have := p3 i (by simpa using h') (by simpa using h)
        simpa [Nat.succ_sub_succ] using this
    · have hne : x ≠ o := fun e' => hno (by simp [e'])
      rw [p4 o ho (fun hm => hno (by simp [hm])), List.getElem?_set_ne hne]
  | _ :: _, _, [], hl, _, _ => by simp at hl

theorem leLs_refl : ∀ xs : List A, leLs xs xs
  | [] => trivial
  | x :: r => ⟨by cases x <;> first | exact trivial | exact rfl | exact Deq.refl _, leLs_refl r⟩
theorem leO_refl [Ops] [Lim] : ∀ {x : AObj}, (match x with | .arr m _ _ fz => fz ≤ m | _ => True) → leO x x
  | .dead, _ => trivial
  | .box cs, _ => ⟨cs, rfl, leLs_refl cs⟩
  | .arr m sz g fz, h => ⟨g, fz, rfl, Nat.le_refl _, h, fun _ _ _ _ => .refl _⟩
  | .iter _ _, _ => rfl
  | .bld _, _ => rfl
theorem leH_pre [Ops] [Lim] : ∀ {H2 : AHeap} (G : AHeap), fzH H2 → leH H2 (H2 ++ G)
  | [], _, _ => trivial
  | x :: r, G, h => ⟨leO_refl h.1, leH_pre G h.2⟩

/-- THE USE OF A CONTRACT over a few objects. -/
theorem VCalls.within {P : Program} {K : FuncId} {args1 : List A} {H1 : AHeap} {R1 : A → AHeap → Prop} (h : VCalls P K args1 H1 R1) {H : AHeap} (es : List Nat) {R : A → AHeap → Prop}
    (hn : nodN es = true) (ho : objsAt H (ix es H.length) es H1) (hb : belH H1.length H1 = true) (ha : belA.belAs H1.length args1 = true)
    (hr : ∀ r1 H1', R1 r1 H1' → ∃ H2 G, H1' = H2 ++ G ∧ H1.length ≤ H2.length ∧ fzH H2 ∧ belA H2.length r1 = true ∧ belH H2.length H2 = true ∧ R (ren (ix es H.length) r1) (putO (ix es H.length) H es H2)) :
    VCalls P K (ren.renL (ix es H.length) args1) H R := by
  obtain ⟨o1, o2⟩ := objsAt_spec ho
  have lt1 : ∀ i (hi : i < es.length), es[i] < H.length := fun i hi => (List.getElem?_eq_some_iff.1 (o2 i hi (by omega))).1
  refine h.frame H (ix es H.length) (fun i j hi hj e => ?_) (fun i x hx => ?_) (fun i x hx => belH_ok hb i x hx) (fun k hk => belAs_ok ha k hk) fun r1 H1' hR => ?_
  · rw [ix_lt (by omega), ix_lt (by omega)] at e
    exact nodN_spec hn i j (by omega) (by omega) e
  · have hi := (List.getElem?_eq_some_iff.1 hx).1
    rw [ix_lt (by omega), o2 i (by omega) hi]
    rw [List.getElem?_eq_getElem hi] at hx
    rw [Option.some.inj hx]
  · obtain ⟨H2, G, rfl, h2, h3, h4, h5, h6⟩ := hr r1 H1' hR
    refine Ops.exists_one.elim fun inst => ?_
    let lim : Lim := ⟨fun _ _ => True⟩
    obtain ⟨p1, p2, p3, p4⟩ := putO_spec (ix es H.length) es H H2 (by omega) (fun x hx => by
      obtain ⟨i, hi, rfl⟩ := List.getElem_of_mem hx
      exact lt1 i hi) hn
    refine ⟨_, H2, _, .keep _ (belA_ok h4), h2, fun i h7 h8 => ?_, leH_pre G h3, fun i x hx => belH_ok h5 i x hx, by rw [p1]; omega, fun i x hx => ?_, fun o ho' hno => ?_, h6⟩
    · rw [ix_ge (by omega)]; omega
    · have hi := (List.getElem?_eq_some_iff.1 hx).1
      rw [List.getElem?_eq_getElem hi] at hx
      rw [← Option.some.inj hx]
      by_cases hc : i < es.length
      · rw [ix_lt hc]; exact p2 i hc hi
      · rw [ix_ge (by omega)]; exact p3 i hi (by omega)
    · refine p4 o ho' fun hm => ?_
      obtain ⟨i, hi, e⟩ := List.getElem_of_mem hm
      exact hno i (by omega) (by rw [ix_lt hi]; exact e)
end

theorem Frz.agg2 [Glb] {H : AHeap} {a b a' b' : A} (h1 : Frz H a a') (h2 : Frz H b b') : Frz H (.agg [a, b]) (.agg [a', b']) := .agg _ _ rfl (frzs_cons h1 (frzs_cons h2 (frzs_nil H)))
/-- WHAT A CONTRACT LEAVES, forgotten in part -/
theorem VCalls.less [Glb] {P : Program} {K : FuncId} {args : List A} {H : AHeap} {R R' : A → AHeap → Prop} (h : VCalls P K args H R)
    (hr : ∀ r H', R r H' → ∃ H2, (∀ [Ops] [Lim], leH H2 H') ∧ H.length ≤ H2.length ∧ belA H2.length r = true ∧ belH H2.length H2 = true ∧ R' r H2) : VCalls P K args H R' :=
  fun lim B ι I w vs hrel hargs => (h lim B ι I w vs hrel hargs).mono fun e w' ⟨v, r, H', ι', I', h1, h2, h3, h4, h5⟩ => by
    refine Ops.exists_one.elim fun inst => ?_
    obtain ⟨H2, g1, g2, g3, g4, g5⟩ := hr r H' h2
    exact ⟨v, r, H2, ι', I', h1, g5, Rel.less h3 g1 (fun o x hx => belH_ok g4 o x hx), h4.less g1 (belA_ok g3), ⟨h5.below, h5.same, h5.imm, g2, fun v x hx => (h5.rep v x hx).less g1 (hx.bel.mono g2)⟩⟩

/-- the same, as a call -/
theorem CallW.within [Glb] {P : Unit → Program} {K : FuncId} {args1 : List A} {H1 : AHeap} {R1 : A → AHeap → Prop} (h : VCalls (P ()) K args1 H1 R1) (es : List Nat) {H : AHeap} {args : List A} {R : A → AHeap → Prop} (hargs : args = ren.renL (ix es H.length) args1)
    (ho : objsAt H (ix es H.length) es H1) (hc : (nodN es && belH H1.length H1 && belA.belAs H1.length args1) = true)
    (hr : ∀ r1 H1', R1 r1 H1' → ∃ H2 G, H1' = H2 ++ G ∧ H1.length ≤ H2.length ∧ fzH H2 ∧ (belA H2.length r1 && belH H2.length H2) = true ∧ R (ren (ix es H.length) r1) (putO (ix es H.length) H es H2)) :
    CallW P K args H R := by
  simp only [Bool.and_eq_true] at hc
  subst hargs
  refine ⟨h.within es hc.1.1 ho hc.1.2 hc.2 fun r1 H1' h1 => ?_⟩
  obtain ⟨H2, G, e, h2, h3, h4, h5⟩ := hr r1 H1' h1
  simp only [Bool.and_eq_true] at h4
  exact ⟨H2, G, e, h2, h3, h4.1, h4.2, h5⟩
end Go.VM

/- A contract of the kit's over scalars, whose world grows: as a contract of the logic. -/
set_option linter.unusedSimpArgs false
set_option linter.unusedVariables false
set_option linter.unusedSectionVars false
namespace Go.VM
open Go

def valD : D → Value
  | .int k n => .int k n
  | .bool b => .bool b
  | .str s => .string s
  | _ => .bool false
def scal : D → Bool
  | .int _ _ => true
  | .bool _ => true
  | .str _ => true
  | _ => false
variable [Glb]
theorem scal_rep {w : World} {I : Nat → Nat → Prop} {d : D} (h : scal d = true) : RepD w I (valD d) d := by
  cases d <;> first | exact .int _ _ | exact .bool _ | exact .str _ | (cases h)
theorem scal_val {w : World} {I : Nat → Nat → Prop} {v : Value} {d : D} (h : scal d = true) (hr : RepD w I v d) : v = valD d := by
  cases d <;> first | (cases hr; rfl) | (cases h)
theorem scals_val {w : World} {I : Nat → Nat → Prop} {ι : Nat → Option Nat} {H : AHeap} : ∀ {ds : List D} {vs : List Value}, ds.all scal = true → RepL w I ι H vs (ds.map .d) → vs = ds.map valD
  | [], [], _, _ => rfl
  | [], v :: vs, _, h => by have := h.1; simp at this
  | d :: ds, [], _, h => by have := h.1; simp at this
  | d :: ds, v :: vs, hs, h => by
    simp only [List.all_cons, Bool.and_eq_true] at hs
    have h0 := h.2 0 (by simp)
    simp only [List.map_cons, List.getD_cons_zero] at h0
    cases h0 with | d _ _ h0 =>
    rw [List.map_cons, scal_val hs.1 h0, scals_val (ds := ds) (vs := vs) hs.2 ⟨by have := h.1; simpa using this, fun k hk => by
      have := h.2 (k + 1) (by simpa using hk)
      simpa using this⟩]
theorem vfun_kit0 {Q : Program} {K : FuncId} {ds : List D} {v : Value} {r : A} (hs : ds.all scal = true) (hr : ∀ w I ι H, RepA w I ι H v r)
    (h : ∀ w : World, (∀ b k v, Glb.G b k v → w.cell? ⟨b, k, none⟩ = v) → Calls Q K (ds.map valD).toArray w fun e w' => e = .returned v ∧ Go.RowKit.Below w.heap.size w w') :
    VFun Q K (ds.map .d) (fun x => x = r) := by
  intro H lim B ι I w vs hrel hargs
  obtain rfl := scals_val hs hargs
  refine (h w fun b k v hg => (hrel.glob b k v hg).2).mono ?_
  rintro e w' ⟨rfl, hb⟩
  obtain ⟨g1, g2⟩ := hrel.grow (w' := w') (J := I) ⟨hb.os, hb.tape, hb.output, hb.size, fun k hk _ => hb.block k hk⟩ (fun _ _ h => h) (fun _ _ _ h => h) (fun b k h => Nat.lt_of_lt_of_le (hrel.imm b k h) hb.size)
  exact ⟨v, r, H, ι, I, rfl, ⟨rfl, rfl⟩, g1, hr _ _ _ _, g2⟩
theorem vfun_kit {Q : Program} {K : FuncId} {ds : List D} {d : D} (hs : ds.all scal = true) (hd : scal d = true)
    (h : ∀ w : World, (∀ b k v, Glb.G b k v → w.cell? ⟨b, k, none⟩ = v) → Calls Q K (ds.map valD).toArray w fun e w' => e = .returned (valD d) ∧ Go.RowKit.Below w.heap.size w w') :
    VFun Q K (ds.map .d) (fun x => x = .d d) := vfun_kit0 hs (fun _ _ _ _ => .d _ _ (scal_rep hd)) h
theorem vfun_kitT {Q : Program} {K : FuncId} {ds rs : List D} (hs : ds.all scal = true) (hd : rs.all scal = true)
    (h : ∀ w : World, (∀ b k v, Glb.G b k v → w.cell? ⟨b, k, none⟩ = v) → Calls Q K (ds.map valD).toArray w fun e w' => e = .returned (.tuple (rs.map valD).toArray) ∧ Go.RowKit.Below w.heap.size w w') :
    VFun Q K (ds.map .d) (fun x => x = .tup (rs.map .d)) := vfun_kit0 hs (fun w I ι H => .tup _ _ (by simp) fun k hk => by
      have hk' : k < rs.length := by simpa using hk
      have : scal rs[k] = true := by
        simp only [List.all_eq_true] at hd
        exact hd _ (List.getElem_mem hk')
      simp only [List.getD_eq_getElem?_getD, List.getElem?_map, List.getElem?_eq_getElem hk', Option.map_some, Option.getD_some]
      exact .d _ _ (scal_rep this)) h
end Go.VM

/- Own slices handed to a function of data: they are frozen first. -/
set_option linter.unusedSimpArgs false
set_option linter.unusedVariables false
set_option linter.unusedSectionVars false
namespace Go.VM
theorem leL_nils (n sz : Nat) (g : Nat → Nat → D) : leL (.d (.sl n sz g)) .nils = (n = 0) := rfl
theorem leA_nils (n sz : Nat) (g : Nat → Nat → D) : leA (.d (.sl n sz g)) .nils = (n = 0) := rfl
/-- many goals that are one -/
theorem both {G M : Prop} (h : G → M) (g : G) : M := h g
theorem bsz (l : List UInt8) : (ByteArray.mk (Array.mk l)).size = l.length := rfl
theorem app_row {g : Nat → Nat → D} {n sz : Nat} {cs : List D} (h : ∀ j, j < sz → cs.getD j .nilp = g n j) (i j : Nat) (hi : i < n + 1) (hj : j < sz) : appF n g (rowF sz cs) i j = g i j := by
  unfold appF rowF
  by_cases e : i < n
  · rw [if_pos e]
  · obtain rfl : i = n := by omega
    rw [if_neg e, Nat.sub_self, Nat.zero_mul, Nat.zero_add, h j hj]
theorem app_row2 {g g' : Nat → Nat → D} {n sz : Nat} {cs : List D} (h0 : ∀ i j, i < n → j < sz → g i j = g' i j) (h : ∀ j, j < sz → cs.getD j .nilp = g' n j) (i j : Nat) (hi : i < n + 1) (hj : j < sz) : appF n g (rowF sz cs) i j = g' i j := by
  unfold appF rowF
  by_cases e : i < n
  · rw [if_pos e, h0 i j e hj]
  · obtain rfl : i = n := by omega
    rw [if_neg e, Nat.sub_self, Nat.zero_mul, Nat.zero_add, h j hj]
def mapD : List D → List A
  | [] => []
  | x :: r => .d x :: mapD r
theorem mapD_eq : ∀ l, mapD l = l.map A.d
  | [] => rfl
  | x :: r => by simp [mapD, mapD_eq r]
section
variable [Ops]
def wargs : List A → AHeap → (List A → AHeap → Prop) → Prop
  | [], H, K => K [] H
  | a :: r, H, K => match a with
    | .agg cs => wdatas cs H (fun ds H' => wargs r H' (fun asx H'' => K (.agg (mapD ds) :: asx) H''))
    | .clo f x y => wargs r H (fun asx H'' => K (.clo f x y :: asx) H'')
    | .ptr o k => wargs r H (fun asx H'' => K (.ptr o k :: asx) H'')
    | .undef => wargs r H (fun asx H'' => K (.undef :: asx) H'')
    | a => wdata a H (fun d H' => wargs r H' (fun asx H'' => K (.d d :: asx) H''))
variable [Glb] [Lim]
theorem wargs_ok (asx : List A) : ∀ {B : Gd} {ι : Nat → Option Nat} {w : World} {I : Nat → Nat → Prop} {H : AHeap} (r : Rel B ι I w H) {vs : List Value} (hv : RepL w I ι H vs asx) {K : List A → AHeap → Prop} (h : wargs asx H K),
    ∃ I' H' xs, Stay B w I ι H I' H' ∧ RepL w I' ι H' vs xs ∧ K xs H' := by
  induction asx with
  | nil => intro B ι w I H r vs hv K h; exact ⟨I, H, [], .refl r, hv, h⟩
  | cons a asx ih =>
    intro B ι w I H r vs hv K h
    obtain ⟨hl, hk⟩ := hv
    cases vs with
    | nil => simp at hl
    | cons v vs =>
      have h0 := hk 0 (by simp)
      simp only [List.getD_cons_zero] at h0
      have hr : RepL w I ι H vs asx := ⟨by simpa using hl, fun k hk' => by simpa using hk (k + 1) (by simpa using hk')⟩
      have fin : ∀ {I1 : Nat → Nat → Prop} {H1 : AHeap} {x : A}, Stay B w I ι H I1 H1 → RepA w I1 ι H1 v x → wargs asx H1 (fun asx H'' => K (x :: asx) H'') →
          ∃ I' H' xs, Stay B w I ι H I' H' ∧ RepL w I' ι H' (v :: vs) xs ∧ K xs H' := fun {I1 H1 x} s1 d1 h1 => by
        obtain ⟨I2, H2, xs, s2, d2, h2⟩ := ih s1.1 (vs := vs) ⟨hr.1, fun k hk' => (hr.2 k hk').goes s1.2⟩ h1
        refine ⟨I2, H2, x :: xs, s1.trans s2, ⟨by simp [d2.1], fun k hk' => ?_⟩, h2⟩
        cases k with
        | zero => simpa using d1.goes s2.2
        | succ k => simpa using d2.2 k (by simpa using hk')
      have one : ∀ {a : A}, RepA w I ι H v a → wdata a H (fun d H' => wargs asx H' (fun asx H'' => K (.d d :: asx) H'')) → ∃ I' H' xs, Stay B w I ι H I' H' ∧ RepL w I' ι H' (v :: vs) xs ∧ K xs H' := fun h0 h => by
        obtain ⟨I1, H1, x, s1, d1, h1⟩ := wdata_ok r h0 h
        exact fin s1 (.d _ _ d1) h1
      cases a with
      | agg cs =>
        cases h0 with | agg ws _ l1 r1 =>
        obtain ⟨I1, H1, xs, s1, l2, d1, h1⟩ := wdatas_ok cs r (vs := ws) (by omega) r1 h
        refine fin s1 (.agg ws _ (by rw [mapD_eq]; simp; omega) fun k hk' => ?_) h1
        rw [mapD_eq] at hk' ⊢
        have hk2 : k < xs.length := by simpa using hk'
        have := d1 k (by omega)
        simp only [List.getD_eq_getElem?_getD, List.getElem?_map, List.getElem?_eq_getElem hk2, Option.map_some, Option.getD_some] at this ⊢
        exact .d _ _ this
      | clo f x y => exact fin (.refl r) h0 h
      | ptr o k => exact fin (.refl r) h0 h
      | undef => exact fin (.refl r) h0 h
      | d x => exact one h0 h
      | nils => exact one h0 h
      | ref o off len sz => exact one h0 h
      | eptr o i j l => exact one h0 h
      | iptr g i j sz => exact one h0 h
      | itr o => exact one h0 h
      | tup xs => exact one h0 h
end
/-- THE CALL with own slices frozen -/
theorem CallW.frz [Glb] {P : Unit → Program} {K : FuncId} {args : List A} {H : AHeap} {R : A → AHeap → Prop} (h : ∀ [Ops], wargs args H (fun asx H' => CallW P K asx H' R)) : CallW P K args H R := by
  refine Ops.exists_one.elim fun inst => ⟨fun lim B ι I w vs hrel hargs => ?_⟩
  obtain ⟨I', H', xs, s, hr, hc⟩ := @wargs_ok inst _ lim args B ι w I H hrel vs hargs _ h
  rw [CallW_eq] at hc
  refine (hc lim B ι I' w vs s.1 hr).mono ?_
  rintro e w' ⟨v, r, H2, ι2, I2, rfl, h2, h3, h4, h5⟩
  exact ⟨v, r, H2, ι2, I2, rfl, h2, h3, h4, Keep.trans (@Keep.goes inst _ lim B w w w I I I' ι ι ι H H H' ⟨.refl _ _, fun _ _ _ => rfl, fun _ _ h => h, Nat.le_refl _, fun _ _ h => h⟩ s.2 (.refl _ _)) h5⟩
/-- THE CALL with arguments of which less is known -/
theorem CallW.args [Glb] {P : Unit → Program} {K : FuncId} {args args' : List A} {H : AHeap} {R : A → AHeap → Prop} (h : ∀ [Ops] [Lim], leAs args' args) (hc : CallW P K args' H R) : CallW P K args H R := by
  refine Ops.exists_one.elim fun inst => ⟨fun lim B ι I w vs hrel hargs => ?_⟩
  rw [CallW_eq] at hc
  obtain ⟨h1, h2⟩ := leAs_get h
  exact hc lim B ι I w vs hrel ⟨by rw [hargs.1, h1], fun k hk => leA_rep (hargs.2 k (by omega)) (h2 k hk)⟩
theorem leAs_refl [Ops] [Glb] [Lim] : ∀ xs : List A, leAs xs xs
  | [] => trivial
  | x :: r => ⟨by cases x <;> first | exact trivial | exact rfl | exact Deq.refl _ | exact ⟨_, rfl, leLs_refl _⟩, leAs_refl r⟩
theorem CallW.dq [Glb] {P : Unit → Program} {K : FuncId} {x y : D} {asx : List A} {H : AHeap} {R : A → AHeap → Prop} (h : Deq x y) (hc : CallW P K (.d y :: asx) H R) : CallW P K (.d x :: asx) H R :=
  CallW.args (args' := .d y :: asx) (fun {_ _} => ⟨h, leAs_refl _⟩) hc
/-- a nil slice that comes back, as an own slice of no elements -/
theorem VCalls.ghost [Glb] {P : Program} {K : FuncId} {args : List A} {H : AHeap} {R R' : A → AHeap → Prop} (h : VCalls P K args H R) (sz : Nat) (g : Nat → Nat → D)
    (hr : ∀ r H', R r H' → R' r H' ∨ (r = .nils ∧ R' (.ref H'.length 0 0 sz) (H' ++ [.arr 0 sz g 0]))) : VCalls P K args H R' :=
  fun lim B ι I w vs hrel hargs => (h lim B ι I w vs hrel hargs).mono fun e w' ⟨v, r, H', ι', I', h1, h2, h3, h4, h5⟩ => by
    refine Ops.exists_one.elim fun inst => ?_
    rcases hr r H' h2 with h6 | ⟨rfl, h6⟩
    · exact ⟨v, r, H', ι', I', h1, h6, h3, h4, h5⟩
    · have gg := Goes.new (w := w') (w' := w') (fun _ _ => rfl) h3.imm ι' H' (.arr 0 sz g 0) none
      refine ⟨v, _, _, updι ι' H'.length none, I', h1, h6, ?_, ?_, @Keep.goes inst _ lim B w w' w' I I' I' ι ι' _ H H' _ h5 gg (.refl _ _)⟩
      · refine h3.new (Nat.le_refl _) (fun _ _ => rfl) _ _ (fun b' e => by cases e) ?_
        exact ⟨Nat.zero_le _, .inr ⟨by simp [updι], rfl⟩⟩
      · cases h4 with | nils =>
        refine .ref _ _ _ _ _ (by simp) (fun n' sz'' get'' fz' h _ => ?_) ⟨_, _, rfl⟩
        rw [List.getElem?_append_right (Nat.le_refl _)] at h
        simp at h
        obtain ⟨rfl, rfl, rfl, rfl⟩ := h
        exact ⟨by omega, fun _ => .inr (.inl ⟨by simp [updι], rfl, rfl⟩)⟩
end Go.VM

/- Arguments opened: what a value of a type of numbers, texts, slices and structs stands for. -/
set_option linter.unusedSimpArgs false
set_option linter.unusedVariables false
namespace Go.VM
open Go Go.ChangeShapes Go.WideShapes Go.ChangeAt Go.RowKit

mutual
/-- data of a type -/
inductive Shp (P : Program) : TypeId → List D → Prop
  | int {t : TypeId} {k : IntKind} {n : Int} (h : P.underlying t = some (.int k)) (hw : (Lit.int k n).wf = true) : Shp P t [.int k n]
  | str {t : TypeId} {s : ByteArray} (h : P.underlying t = some .string) (hs : s.size ≤ maxLen) : Shp P t [.str s]
  | bool {t : TypeId} {b : Bool} (h : P.underlying t = some .bool) : Shp P t [.bool b]
  | slice {t e : TypeId} {n : Nat} {get : Nat → Nat → D} (h : P.underlying t = some (.slice e)) (hn : n ≤ maxLen) (hall : ∀ i, i < n → Shp P e ((List.range (P.cellsOf e)).map (get i))) : Shp P t [.sl n (P.cellsOf e) get]
  | struct {t : TypeId} {fs : Array Field} {ds : List D} (h : P.underlying t = some (.struct fs)) (hf : ShpF P fs.toList ds) : Shp P t ds
inductive ShpF (P : Program) : List Field → List D → Prop
  | nil : ShpF P [] []
  | cons {f : Field} {r : List Field} {d1 d2 : List D} (h1 : Shp P f.type d1) (hl : d1.length = P.cellsOf f.type) (h2 : ShpF P r d2) : ShpF P (f :: r) (d1 ++ d2)
end
theorem Shp.int_inv {P : Program} {t : TypeId} {k : IntKind} {ds : List D} (hu : P.underlying t = some (.int k)) (h : Shp P t ds) : ∃ n, ds = [.int k n] ∧ (Lit.int k n).wf = true := by
  cases h with
  | int h hw => rw [hu] at h; cases h; exact ⟨_, rfl, hw⟩
  | str h => rw [hu] at h; cases h
  | bool h => rw [hu] at h; cases h
  | slice h => rw [hu] at h; cases h
  | struct h => rw [hu] at h; cases h
theorem Shp.str_inv {P : Program} {t : TypeId} {ds : List D} (hu : P.underlying t = some .string) (h : Shp P t ds) : ∃ s, ds = [.str s] ∧ s.size ≤ maxLen := by
  cases h with
  | int h hw => rw [hu] at h; cases h
  | str h hs => exact ⟨_, rfl, hs⟩
  | bool h => rw [hu] at h; cases h
  | slice h => rw [hu] at h; cases h
  | struct h => rw [hu] at h; cases h
theorem Shp.bool_inv {P : Program} {t : TypeId} {ds : List D} (hu : P.underlying t = some .bool) (h : Shp P t ds) : ∃ b, ds = [.bool b] := by
  cases h with
  | int h hw => rw [hu] at h; cases h
  | str h => rw [hu] at h; cases h
  | bool h => exact ⟨_, rfl⟩
  | slice h => rw [hu] at h; cases h
  | struct h => rw [hu] at h; cases h
theorem Shp.slice_inv {P : Program} {t e : TypeId} {ds : List D} (hu : P.underlying t = some (.slice e)) (h : Shp P t ds) :
    ∃ n get, ds = [.sl n (P.cellsOf e) get] ∧ n ≤ maxLen ∧ ∀ i, i < n → Shp P e ((List.range (P.cellsOf e)).map (get i)) := by
  cases h with
  | int h hw => rw [hu] at h; cases h
  | str h => rw [hu] at h; cases h
  | bool h => rw [hu] at h; cases h
  | slice h hn hall => rw [hu] at h; cases h; exact ⟨_, _, rfl, hn, hall⟩
  | struct h => rw [hu] at h; cases h
theorem Shp.struct_inv {P : Program} {t : TypeId} {fs : Array Field} {ds : List D} (hu : P.underlying t = some (.struct fs)) (h : Shp P t ds) : ShpF P fs.toList ds := by
  cases h with
  | int h hw => rw [hu] at h; cases h
  | str h => rw [hu] at h; cases h
  | bool h => rw [hu] at h; cases h
  | slice h => rw [hu] at h; cases h
  | struct h hf => rw [hu] at h; cases h; exact hf

def seqF (P : Program) : Nat → List Field → Nat → Bool
  | off, [], n => Nat.beq off n
  | off, f :: r, n => Nat.beq f.offset off && seqF P (off + P.cellsOf f.type) r n
/-- the types of a list read plainly -/
def plainT (P : Program) (ts : List TypeId) (t : TypeId) : Bool :=
  match P.underlying t with
  | some (.int _) => Nat.beq (P.cellsOf t) 1
  | some .string => Nat.beq (P.cellsOf t) 1
  | some .bool => Nat.beq (P.cellsOf t) 1
  | some (.slice e) => ts.contains e && Nat.blt 0 (P.cellsOf e) && Nat.beq (P.cellsOf t) 1
  | some (.struct fs) => fs.toList.all (fun f => ts.contains f.type) && seqF P 0 fs.toList (P.cellsOf t)
  | _ => false

variable {H : Type} {enc : TypeId × Value → H} {P : Program} {w : World} {base : Nat} {sp : Nat → Bool} {held : Bool}

theorem fields_open {ts : List TypeId} {m : Nat} (ih : ∀ t cs x, t ∈ ts → DataW.trod enc P w base sp held m t cs = some x → ∃ ds : List D, ds.length = cs.length ∧ cs.length = P.cellsOf t ∧ (∀ k, k < ds.length → RepD w (fun b _ => b < w.heap.size) (cs.getD k undef) (ds.getD k .nilp)) ∧ Shp P t ds)
    (cs : List Value) : ∀ (l : List Field) (off : Nat), (∀ f, f ∈ l → f.type ∈ ts) → seqF P off l cs.length = true → (∀ f, f ∈ l → ∃ x, DataW.trod enc P w base sp held m f.type (List.take (P.cellsOf f.type) (List.drop f.offset cs)) = some x) →
    ∃ ds : List D, ds.length + off = cs.length ∧ (∀ k, k < ds.length → RepD w (fun b _ => b < w.heap.size) (cs.getD (off + k) undef) (ds.getD k .nilp)) ∧ ShpF P l ds
  | [], off, _, hs, _ => ⟨[], by simp only [seqF, Nat.beq_eq] at hs; simpa using hs, fun k hk => absurd hk (by simp), .nil⟩
  | f :: r, off, ht, hs, hx => by
    simp only [seqF, Bool.and_eq_true, Nat.beq_eq] at hs
    obtain ⟨x, hx0⟩ := hx f (by simp)
    obtain ⟨d1, h1, h2, h3, h4⟩ := ih _ _ x (ht f (by simp)) hx0
    obtain ⟨d2, k1, k2, k3⟩ := fields_open ih cs r (off + P.cellsOf f.type) (fun g hg => ht g (by simp [hg])) hs.2 (fun g hg => hx g (by simp [hg]))
    refine ⟨d1 ++ d2, by simp only [List.length_append]; omega, fun k hk => ?_, .cons h4 (h1.trans h2) k3⟩
    by_cases h : k < d1.length
    · have e1 : (d1 ++ d2).getD k .nilp = d1.getD k .nilp := by simp [List.getD_eq_getElem?_getD, List.getElem?_append, h]
      have e2 : (List.take (P.cellsOf f.type) (List.drop f.offset cs)).getD k undef = cs.getD (off + k) undef := by
        simp only [List.getD_eq_getElem?_getD, List.getElem?_take, List.getElem?_drop, hs.1]
        rw [if_pos (by omega)]
      rw [e1, ← e2]
      exact h3 k h
    · have e1 : (d1 ++ d2).getD k .nilp = d2.getD (k - d1.length) .nilp := by simp [List.getD_eq_getElem?_getD, List.getElem?_append, h]
      rw [e1]
      simp only [List.length_append] at hk
      have := k2 (k - d1.length) (by omega)
      rwa [show off + P.cellsOf f.type + (k - d1.length) = off + k by omega] at this

theorem mapM_some {α β : Type} {f : α → Option β} : ∀ {l : List α} {ys : List β}, l.mapM f = some ys → ∀ x, x ∈ l → ∃ y, f x = some y
  | [], _, _, x, hx => by simp at hx
  | a :: l, ys, h, x, hx => by
    rw [List.mapM_cons] at h
    cases hf : f a with
    | none => rw [hf] at h; cases h
    | some y =>
      rw [hf] at h
      cases hl : l.mapM f with
      | none => rw [hl] at h; cases h
      | some zs =>
        rcases List.mem_cons.1 hx with rfl | hx
        · exact ⟨y, hf⟩
        · exact mapM_some hl x hx
theorem slice_elem {fuel : Nat} {t e : TypeId} {a : Addr} {len cap : Nat} {x : DataW H × List MemPlace} (hu : P.underlying t = some (.slice e)) (h : DataW.trod enc P w base sp held (fuel + 1) t [.slice (some a) len cap] = some x) (i : Nat) (hi : i < len) :
    ∃ y, (w.cells? base (a.add (i * P.cellsOf e)) (P.cellsOf e)).bind (DataW.trod enc P w base sp held fuel e) = some y := by
  simp only [DataW.trod, hu] at h
  split at h
  · cases hm : (List.range len).mapM fun i => (w.cells? base (a.add (i * P.cellsOf e)) (P.cellsOf e)).bind (DataW.trod enc P w base sp held fuel e) with
    | none => rw [hm] at h; cases h
    | some ys => exact mapM_some hm i (by simpa using hi)
  · cases h
theorem trod_open {ts : List TypeId} (hts : ∀ t, t ∈ ts → plainT P ts t = true) : ∀ (fuel : Nat) (t : TypeId) (cs : List Value) (x : DataW H × List MemPlace), t ∈ ts → DataW.trod enc P w base sp held fuel t cs = some x →
    ∃ ds : List D, ds.length = cs.length ∧ cs.length = P.cellsOf t ∧ (∀ k, k < ds.length → RepD w (fun b _ => b < w.heap.size) (cs.getD k undef) (ds.getD k .nilp)) ∧ Shp P t ds
  | 0, t, cs, x, _, h => by simp [DataW.trod] at h
  | fuel + 1, t, cs, x, ht, h => by
    have hp := hts t ht
    have one : ∀ {v : Value} {d : D}, cs = [v] → RepD w (fun b _ => b < w.heap.size) v d → P.cellsOf t = 1 → Shp P t [d] → ∃ ds : List D, ds.length = cs.length ∧ cs.length = P.cellsOf t ∧ (∀ k, k < ds.length → RepD w (fun b _ => b < w.heap.size) (cs.getD k undef) (ds.getD k .nilp)) ∧ Shp P t ds := fun {v d} e hr hc hs => by
      subst e
      refine ⟨[d], rfl, by simp [hc], fun k hk => ?_, hs⟩
      obtain rfl : k = 0 := by simpa using hk
      simpa using hr
    unfold plainT at hp
    split at hp
    · rename_i k hu
      obtain ⟨n, rfl, _, hw⟩ := DataW.trod_int hu h
      exact one rfl (.int k n) (by simpa using hp) (.int hu hw)
    · rename_i hu
      obtain ⟨s, rfl, _, hs⟩ := DataW.trod_string hu h
      exact one rfl (.str s) (by simpa using hp) (.str hu hs)
    · rename_i hu
      obtain ⟨b, rfl, _⟩ := DataW.trod_bool hu h
      exact one rfl (.bool b) (by simpa using hp) (.bool hu)
    · rename_i e hu
      simp only [Bool.and_eq_true, Nat.beq_eq, Nat.blt_eq] at hp
      have he : e ∈ ts := by simpa using hp.1.1
      rcases Go.Deep.open_slice hu h with ⟨rfl, _⟩ | ⟨a, len, cap, m, n, D', Pl, rfl, hb, hl, hm, hmm, hx, hall⟩
      · exact one (d := .sl 0 (P.cellsOf e) (fun _ _ => .nilp)) rfl (.sl0 _ _ _ _) hp.2 (.slice hu (Nat.zero_le _) fun i hi => absurd hi (Nat.not_lt_zero _))
      · have hlm : len ≤ m := by rw [hmm]; split <;> omega
        by_cases h0 : len = 0
        · subst h0
          exact one (d := .sl 0 (P.cellsOf e) (fun _ _ => .nilp)) rfl (.sl0 _ _ _ _) hp.2 (.slice hu (Nat.zero_le _) fun i hi => absurd hi (Nat.not_lt_zero _))
        have each : ∀ i, i < len → ∃ cs' : List Value, ∃ ds : List D, w.cells? base (a.add (i * P.cellsOf e)) (P.cellsOf e) = some cs' ∧ ds.length = cs'.length ∧ cs'.length = P.cellsOf e ∧ (∀ k, k < ds.length → RepD w (fun b _ => b < w.heap.size) (cs'.getD k undef) (ds.getD k .nilp)) ∧ Shp P e ds := fun i hi => by
          obtain ⟨y, hy⟩ := slice_elem hu h i hi
          cases hc : w.cells? base (a.add (i * P.cellsOf e)) (P.cellsOf e) with
          | none => rw [hc] at hy; cases hy
          | some cs' =>
            rw [hc] at hy
            obtain ⟨ds, d1, d2, d3, d4⟩ := trod_open hts fuel e cs' y he hy
            exact ⟨cs', ds, rfl, d1, d2, d3, d4⟩
        let Q : Nat → List D := fun i => if h : i < len then (each i h).choose_spec.choose else []
        have hQ : ∀ i, i < len → ∃ cs' : List Value, w.cells? base (a.add (i * P.cellsOf e)) (P.cellsOf e) = some cs' ∧ (Q i).length = cs'.length ∧ cs'.length = P.cellsOf e ∧ (∀ k, k < (Q i).length → RepD w (fun b _ => b < w.heap.size) (cs'.getD k undef) ((Q i).getD k .nilp)) ∧ Shp P e (Q i) := fun i hi => by
          simp only [Q, dif_pos hi]
          exact ⟨_, (each i hi).choose_spec.choose_spec⟩
        have hcell : ∀ i j, i < len → j < P.cellsOf e → ∃ v, w.cell? (a.add (i * P.cellsOf e + j)) = some v ∧ RepD w (fun b _ => b < w.heap.size) v ((Q i).getD j .nilp) := fun i j hi hj => by
          obtain ⟨cs', q1, q2, q3, q4, q5⟩ := hQ i hi
          obtain ⟨_, c2, c3⟩ := World.cells?_some q1
          have := c3 j hj
          rw [Go.Deep.add_add] at this
          have hjl : j < cs'.length := by omega
          rw [List.getElem?_eq_getElem hjl] at this
          have q := q4 j (by omega)
          rw [List.getD_eq_getElem?_getD, List.getElem?_eq_getElem hjl] at q
          exact ⟨_, this, q⟩
        obtain ⟨v0, z0, _⟩ := hcell 0 0 (by omega) hp.1.2
        obtain ⟨b, o, spt⟩ := a
        simp only [Nat.zero_mul, Nat.zero_add] at z0
        have hsp : spt = none := by
          have z : w.cell? ((⟨b, o, spt⟩ : Addr).add 0) = some v0 := z0
          unfold World.cell? at z
          split at z
          · cases spt with
            | none => rfl
            | some x => simp [Addr.add] at z
          · cases z
        subst hsp
        have hadd : ∀ j, (⟨b, o, none⟩ : Addr).add j = ⟨b, o + j, none⟩ := fun j => by unfold Addr.add; split <;> simp_all
        have hlt : b < w.heap.size := by
          rw [hadd] at z0
          unfold World.cell? at z0
          split at z0
          · rename_i c _ _ hc; exact (Array.getElem?_eq_some_iff.1 hc).1
          · cases z0
        refine one (d := .sl len (P.cellsOf e) (fun i j => (Q i).getD j .nilp)) rfl (.sl b o len cap _ _ (fun i j => (w.cell? ⟨b, o + (i * P.cellsOf e + j), none⟩).getD undef) hl (fun i j hi hj => ⟨hlt, ?_⟩) (fun i j hi hj => ?_)) hp.2 (.slice hu (by omega) fun i hi => ?_)
        · obtain ⟨v, h1, h2⟩ := hcell i j hi hj
          rw [hadd] at h1
          rw [h1]; rfl
        · obtain ⟨v, h1, h2⟩ := hcell i j hi hj
          rw [hadd] at h1
          rw [h1]; exact h2
        · obtain ⟨cs', q1, q2, q3, q4, q5⟩ := hQ i hi
          have : (List.range (P.cellsOf e)).map (fun j => (Q i).getD j .nilp) = Q i := by
            apply List.ext_getElem
            · simp; omega
            · intro k h1 h2
              simp [List.getD_eq_getElem?_getD, List.getElem?_eq_getElem h2]
          rw [this]; exact q5
    · rename_i fs hu
      simp only [Bool.and_eq_true, List.all_eq_true] at hp
      obtain ⟨xs, n, hn, hxx, hlen, hlx, hfs⟩ := DataW.trod_struct hu h
      obtain rfl : fuel = n := by omega
      obtain ⟨ds, h1, h2, h3⟩ := fields_open (enc := enc) (base := base) (sp := sp) (held := held) (ts := ts) (m := fuel) (fun t cs x ht h => trod_open hts fuel t cs x ht h) cs fs.toList 0 (fun f hf => by simpa using hp.1 f hf) (by rw [hlen]; exact hp.2) (fun f hf => by
        obtain ⟨i, hi, rfl⟩ := List.getElem_of_mem hf
        have hi' : i < fs.size := by simpa using hi
        have := hfs i fs[i] (by simp [hi'])
        rw [List.getElem?_eq_getElem (by omega)] at this
        exact ⟨_, by simpa using this⟩)
      exact ⟨ds, by omega, hlen, fun k hk => by simpa using h2 k hk, .struct hu h3⟩
    · cases hp
end Go.VM

/- Levels: what it is to be valid, the order, the value, and how the order is told by values. -/
namespace Go.VM
set_option linter.unusedVariables false
set_option linter.unusedSimpArgs false

/-- the parts of a level, as data -/
def lvF (V P : Nat → Int) : Nat → Nat → D := fun i j => match j with | 0 => .int .i64 (V i) | _ => .int .i64 (P i)
def PartP (V P : Nat → Int) (i : Nat) : Prop := 0 ≤ V i ∧ V i < 1200 ∧ 0 ≤ P i ∧ P i ≤ 1000 ∧ ∀ k, k < i → V k ≠ V i
def ValidP (c : Int) (n : Nat) (V P : Nat → Int) : Prop := 0 ≤ c ∧ c ≤ 1000 ∧ n ≤ 8 ∧ ∀ i, i < n → PartP V P i
def mostF (P : Nat → Int) : Nat → Int
  | 0 => -1
  | n + 1 => max (mostF P n) (P n)
def leastF (P : Nat → Int) (c : Int) : Nat → Int
  | 0 => c
  | n + 1 => max (leastF P c n) (P n)
def InP (V P : Nat → Int) (n' : Nat) (V' P' : Nat → Int) (i : Nat) : Prop := ∃ k, k < n' ∧ V' k = V i ∧ P i ≤ P' k
def LeqP (c : Int) (n : Nat) (V P : Nat → Int) (c' : Int) (n' : Nat) (V' P' : Nat → Int) : Prop :=
  (∀ i, i < n → InP V P n' V' P' i) ∧ c ≤ max c' (mostF P' n')

theorem mostF_le (P : Nat → Int) : ∀ (n : Nat) (i : Nat), i < n → P i ≤ mostF P n
  | n + 1, i, h => by
    unfold mostF
    by_cases e : i = n
    · subst e; omega
    · have := mostF_le P n i (by omega); omega
theorem mostF_ge (P : Nat → Int) : ∀ n, -1 ≤ mostF P n
  | 0 => by unfold mostF; omega
  | n + 1 => by have := mostF_ge P n; unfold mostF; omega
theorem leastF_most (P : Nat → Int) (c : Int) (hc : 0 ≤ c) : ∀ n, leastF P c n = max c (mostF P n)
  | 0 => by unfold leastF mostF; omega
  | n + 1 => by have := leastF_most P c hc n; unfold leastF mostF; omega
theorem mostF_lub (P : Nat → Int) (b : Int) (hb : -1 ≤ b) : ∀ n, (∀ i, i < n → P i ≤ b) → mostF P n ≤ b
  | 0, _ => by unfold mostF; omega
  | n + 1, h => by have := mostF_lub P b hb n (fun i hi => h i (by omega)); have := h n (by omega); unfold mostF; omega

theorem leq_least {c c' : Int} {n n' : Nat} {V P V' P' : Nat → Int} (hc : 0 ≤ c) (hc' : 0 ≤ c') (h : ∀ i, i < n → InP V P n' V' P' i) :
    c ≤ max c' (mostF P' n') ↔ leastF P c n ≤ leastF P' c' n' := by
  rw [leastF_most P c hc, leastF_most P' c' hc']
  have : mostF P n ≤ mostF P' n' := mostF_lub P _ (mostF_ge _ _) n fun i hi => by
    obtain ⟨k, h1, h2, h3⟩ := h i hi
    have := mostF_le P' n' k h1
    omega
  omega

theorem LeqP_ref {c c' : Int} {n n' : Nat} {V P V' P' : Nat → Int} (hc : 0 ≤ c) (hc' : 0 ≤ c') :
    LeqP c n V P c' n' V' P' ↔ leastF P c n ≤ leastF P' c' n' ∧ ∀ i, i < n → InP V P n' V' P' i :=
  ⟨fun ⟨h1, h2⟩ => ⟨(leq_least hc hc' h1).1 h2, h1⟩, fun ⟨h1, h2⟩ => ⟨h2, (leq_least hc hc' h2).2 h1⟩⟩

/-- the value of a variable -/
def atF (m : Nat) (N : Nat → Int) (v : Int) : Int := if v < m then max (N v.toNat) 0 else 0
/-- the value of a level's first parts; none: a number out of range -/
def evalF (V P : Nat → Int) (m : Nat) (N : Nat → Int) (c : Int) : Nat → Option Int
  | 0 => some c
  | n + 1 => match evalF V P m N c n with
    | none => none
    | some x => if atF m N (V n) > 2147483647 then none else some (max x (atF m N (V n) + P n))

theorem evalF_none (V P : Nat → Int) (m : Nat) (N : Nat → Int) (c : Int) : ∀ n i, i < n → atF m N (V i) > 2147483647 → evalF V P m N c n = none
  | n + 1, i, h, hv => by
    unfold evalF
    by_cases e : i = n
    · subst e
      split
      · rfl
      · rw [if_pos hv]
    · rw [evalF_none V P m N c n i (by omega) hv]

/-- the value where all numbers are in range -/
def evV (V P : Nat → Int) (x : Int → Int) (c : Int) : Nat → Int
  | 0 => c
  | n + 1 => max (evV V P x c n) (x (V n) + P n)
theorem evalF_some (V P : Nat → Int) (m : Nat) (N : Nat → Int) (c : Int) (x : Int → Int) : ∀ n, (∀ i, i < n → atF m N (V i) = x (V i) ∧ x (V i) ≤ 2147483647) → evalF V P m N c n = some (evV V P x c n)
  | 0, _ => rfl
  | n + 1, h => by
    obtain ⟨h1, h2⟩ := h n (by omega)
    unfold evalF evV
    rw [evalF_some V P m N c x n fun i hi => h i (by omega), h1]
    dsimp only
    rw [if_neg (by omega)]
theorem evV_ge (V P : Nat → Int) (x : Int → Int) (c : Int) : ∀ n, c ≤ evV V P x c n ∧ ∀ i, i < n → x (V i) + P i ≤ evV V P x c n
  | 0 => ⟨Int.le_refl _, fun i h => by omega⟩
  | n + 1 => by
    obtain ⟨h1, h2⟩ := evV_ge V P x c n
    unfold evV
    refine ⟨by omega, fun i hi => ?_⟩
    by_cases e : i = n
    · subst e; omega
    · have := h2 i (by omega); omega
theorem evV_le (V P : Nat → Int) (x : Int → Int) (c b : Int) (hc : c ≤ b) : ∀ n, (∀ i, i < n → x (V i) + P i ≤ b) → evV V P x c n ≤ b
  | 0, _ => hc
  | n + 1, h => by
    have h1 := evV_le V P x c b hc n fun i hi => h i (by omega)
    have h2 := h n (by omega)
    unfold evV; omega

theorem evV_most {V P : Nat → Int} {x : Int → Int} {c : Int} {n : Nat} (hx : ∀ v, 0 ≤ x v) (hc : 0 ≤ c) : max c (mostF P n) ≤ evV V P x c n := by
  obtain ⟨e1, e2⟩ := evV_ge V P x c n
  have := mostF_lub P (evV V P x c n) (by omega) n fun i hi => by have := e2 i hi; have := hx (V i); omega
  omega
theorem leq_ev {c c' : Int} {n n' : Nat} {V P V' P' : Nat → Int} (x : Int → Int) (hx : ∀ v, 0 ≤ x v) (hc : 0 ≤ c') (h : LeqP c n V P c' n' V' P') : evV V P x c n ≤ evV V' P' x c' n' := by
  obtain ⟨h1, h2⟩ := h
  have := evV_most (V := V') (P := P') (n := n') hx hc
  refine evV_le V P x c _ (by omega) n fun i hi => ?_
  obtain ⟨k, k1, k2, k3⟩ := h1 i hi
  have := (evV_ge V' P' x c' n').2 k k1
  rw [k2] at this
  omega
theorem leq_of_ev {c c' : Int} {n n' : Nat} {V P V' P' : Nat → Int} (ha : ValidP c n V P) (hb : ValidP c' n' V' P')
    (h0 : evV V P (fun _ => 0) c n ≤ evV V' P' (fun _ => 0) c' n') (h1 : ∀ i, i < n → evV V P (fun v => if v = V i then 1001 else 0) c n ≤ evV V' P' (fun v => if v = V i then 1001 else 0) c' n') : LeqP c n V P c' n' V' P' := by
  obtain ⟨a1, a2, a3, a4⟩ := ha
  obtain ⟨b1, b2, b3, b4⟩ := hb
  refine ⟨fun i hi => ?_, ?_⟩
  · refine Classical.byContradiction fun hno => ?_
    have hno : ∀ k, k < n' → V' k = V i → P' k < P i := fun k hk e => by
      by_cases h : P i ≤ P' k
      · exact absurd ⟨k, hk, e, h⟩ hno
      · omega
    have h := h1 i hi
    have g1 := (evV_ge V P (fun v => if v = V i then 1001 else 0) c n).2 i hi
    have g2 := evV_le V' P' (fun v => if v = V i then 1001 else 0) c' (1000 + P i) (by have := (a4 i hi).2.2.1; omega) n' fun k hk => by
      obtain ⟨_, _, p1, p2, _⟩ := b4 k hk
      have := (a4 i hi).2.2.1
      show (if V' k = V i then (1001 : Int) else 0) + P' k ≤ 1000 + P i
      split
      · rename_i e
        have := hno k hk e
        omega
      · omega
    simp only [if_true] at g1
    omega
  · have g1 := (evV_ge V P (fun _ => 0) c n).1
    have g2 := evV_le V' P' (fun _ => 0) c' (max c' (mostF P' n')) (by omega) n' fun k hk => by
      have := mostF_le P' n' k hk
      omega
    omega
end Go.VM

/- Lists of parts in ascending order: what they tell of each variable, and that this tells them. -/
namespace Go.VM
set_option linter.unusedVariables false
set_option linter.unusedSimpArgs false
abbrev Pt := Int × Int

def omax : Option Int → Option Int → Option Int
  | none, y => y
  | some x, none => some x
  | some x, some y => some (max x y)
theorem omax_none (x : Option Int) : omax x none = x := by cases x <;> rfl
theorem omax_none' (x : Option Int) : omax none x = x := rfl
theorem omax_comm (x y : Option Int) : omax x y = omax y x := by
  cases x <;> cases y <;> simp [omax, Int.max_comm]
theorem omax_assoc (x y z : Option Int) : omax (omax x y) z = omax x (omax y z) := by
  cases x <;> cases y <;> cases z <;> simp [omax, Int.max_assoc]
/-- the greatest number that is added to a variable -/
def mx : List Pt → Int → Option Int
  | [], _ => none
  | x :: l, v => omax (if x.1 = v then some x.2 else none) (mx l v)
theorem mx_append (a b : List Pt) (v : Int) : mx (a ++ b) v = omax (mx a v) (mx b v) := by
  induction a with
  | nil => rfl
  | cons x a ih => simp only [List.cons_append, mx, ih, omax_assoc]
theorem mx_none {l : List Pt} {v : Int} : mx l v = none ↔ ∀ x, x ∈ l → x.1 ≠ v := by
  induction l with
  | nil => simp [mx]
  | cons x l ih =>
    unfold mx
    by_cases h : x.1 = v
    · rw [if_pos h]
      constructor
      · intro e; cases e' : mx l v <;> simp [e', omax] at e
      · intro e; exact absurd h (e x (by simp))
    · rw [if_neg h, omax_none', ih]
      constructor
      · intro e y hy
        rcases List.mem_cons.1 hy with rfl | hy
        · exact h
        · exact e y hy
      · intro e y hy; exact e y (List.mem_cons_of_mem _ hy)
def asc (l : List Pt) : Prop := l.Pairwise fun x y => x.1 < y.1
theorem mx_lt {l : List Pt} {v : Int} (h : ∀ x, x ∈ l → v < x.1) : mx l v = none := mx_none.2 fun x hx e => by have := h x hx; omega

theorem asc_ext : ∀ {a b : List Pt}, asc a → asc b → (∀ v, mx a v = mx b v) → a = b
  | [], [], _, _, _ => rfl
  | [], y :: b, _, _, h => by
    have := h y.1
    rw [eq_comm, show mx [] y.1 = none from rfl, mx_none] at this
    exact absurd rfl (this y (by simp))
  | x :: a, [], _, _, h => by
    have := h x.1
    rw [show mx [] x.1 = none from rfl, mx_none] at this
    exact absurd rfl (this x (by simp))
  | x :: a, y :: b, ha, hb, h => by
    have ha' := List.pairwise_cons.1 ha
    have hb' := List.pairwise_cons.1 hb
    have hx := mx_lt ha'.1
    have hy := mx_lt hb'.1
    have e1 : x.1 = y.1 := by
      rcases Int.lt_trichotomy x.1 y.1 with h1 | h1 | h1
      · have := h x.1
        rw [mx_lt (l := y :: b) fun z hz => ?_, mx_none] at this
        · exact absurd rfl (this x (by simp))
        · rcases List.mem_cons.1 hz with rfl | hz
          · exact h1
          · have := hb'.1 z hz; omega
      · exact h1
      · have := h y.1
        rw [eq_comm, mx_lt (l := x :: a) fun z hz => ?_, mx_none] at this
        · exact absurd rfl (this y (by simp))
        · rcases List.mem_cons.1 hz with rfl | hz
          · exact h1
          · have := ha'.1 z hz; omega
    have e2 : x.2 = y.2 := by
      have := h x.1
      unfold mx at this
      rw [hx, omax_none, if_pos rfl, ← e1, if_pos rfl, e1, hy, omax_none] at this
      exact Option.some.inj this
    have e3 : a = b := asc_ext ha'.2 hb'.2 fun v => by
      by_cases hv : x.1 = v
      · rw [← hv, hx, e1, hy]
      · have := h v
        unfold mx at this
        rwa [if_neg hv, if_neg (e1 ▸ hv), omax_none', omax_none'] at this
    rw [e3, Prod.ext e1 e2]

/-- a part put in -/
def putL (x : Pt) : List Pt → List Pt
  | [] => [x]
  | y :: r => if x.1 < y.1 then x :: y :: r else if x.1 = y.1 then (y.1, max x.2 y.2) :: r else y :: putL x r
theorem putL_mem {x z : Pt} : ∀ {l : List Pt}, z ∈ putL x l → z.1 = x.1 ∨ z ∈ l
  | [], h => by simp [putL] at h; exact .inl (by rw [h])
  | y :: r, h => by
    unfold putL at h
    split at h
    · rcases List.mem_cons.1 h with rfl | h
      · exact .inl rfl
      · exact .inr h
    · split at h
      · rename_i e
        rcases List.mem_cons.1 h with rfl | h
        · exact .inl e.symm
        · exact .inr (List.mem_cons_of_mem _ h)
      · rcases List.mem_cons.1 h with rfl | h
        · exact .inr (by simp)
        · rcases putL_mem h with e | e
          · exact .inl e
          · exact .inr (List.mem_cons_of_mem _ e)
theorem putL_asc {x : Pt} : ∀ {l : List Pt}, asc l → asc (putL x l)
  | [], _ => by simp [putL, asc]
  | y :: r, h => by
    have h' := List.pairwise_cons.1 h
    unfold putL
    split
    · rename_i e
      exact List.pairwise_cons.2 ⟨fun z hz => by
        rcases List.mem_cons.1 hz with rfl | hz
        · exact e
        · have := h'.1 z hz; omega, h⟩
    · split
      · exact List.pairwise_cons.2 ⟨fun z hz => h'.1 z hz, h'.2⟩
      · refine List.pairwise_cons.2 ⟨fun z hz => ?_, putL_asc h'.2⟩
        rcases putL_mem hz with e | e
        · omega
        · exact h'.1 z e
theorem mx_putL {x : Pt} {v : Int} : ∀ {l : List Pt}, asc l → mx (putL x l) v = omax (mx l v) (if x.1 = v then some x.2 else none)
  | [], _ => by simp only [putL, mx, omax_none, omax_none']
  | y :: r, h => by
    have h' := List.pairwise_cons.1 h
    unfold putL
    split
    · rw [mx, omax_comm]
    · split
      · rename_i e1 e2
        simp only [mx]
        by_cases hv : x.1 = v
        · rw [if_pos hv, if_pos (by omega), if_pos (by omega)]
          have : mx r v = none := mx_lt fun z hz => by have := h'.1 z hz; omega
          rw [this]
          simp [omax]; omega
        · rw [if_neg hv, if_neg (by omega), if_neg (by omega), omax_none, omax_none']
      · simp only [mx]
        rw [mx_putL h'.2, omax_assoc]
/-- parts put in one after the other -/
def putsL (l : List Pt) : List Pt → List Pt
  | [] => l
  | x :: r => putsL (putL x l) r
theorem putsL_snoc (l r : List Pt) (x : Pt) : putsL l (r ++ [x]) = putL x (putsL l r) := by
  induction r generalizing l with
  | nil => rfl
  | cons y r ih => exact ih _
theorem putsL_asc {r : List Pt} : ∀ {l : List Pt}, asc l → asc (putsL l r) := by
  induction r with
  | nil => exact fun h => h
  | cons x r ih => exact fun h => ih (putL_asc h)
theorem mx_putsL {r : List Pt} {v : Int} : ∀ {l : List Pt}, asc l → mx (putsL l r) v = omax (mx l v) (mx r v) := by
  induction r with
  | nil => intro l h; simp [putsL, mx, omax_none]
  | cons x r ih => intro l h; rw [putsL, ih (putL_asc h), mx_putL h, omax_assoc, mx]
theorem putsL_eq {q r : List Pt} (hq : asc q) (h : ∀ v, mx q v = mx r v) : putsL [] r = q :=
  asc_ext (putsL_asc (by simp [asc])) hq fun v => by rw [mx_putsL (by simp [asc]), h v]; rfl

/-- two ascending lists merged -/
def joinL : List Pt → List Pt → List Pt
  | [], b => b
  | x :: a, [] => x :: a
  | x :: a, y :: b => if x.1 < y.1 then x :: joinL a (y :: b) else if y.1 < x.1 then y :: joinL (x :: a) b else (x.1, max x.2 y.2) :: joinL a b
termination_by a b => a.length + b.length
theorem joinL_nil (a : List Pt) : joinL a [] = a := by cases a <;> simp [joinL]
theorem joinL_nil' (a : List Pt) : joinL [] a = a := by simp [joinL]
theorem joinL_cons (x y : Pt) (a b : List Pt) : joinL (x :: a) (y :: b) = if x.1 < y.1 then x :: joinL a (y :: b) else if y.1 < x.1 then y :: joinL (x :: a) b else (x.1, max x.2 y.2) :: joinL a b := by
  rw [joinL]
theorem joinL_mem : ∀ {a b : List Pt} {z : Pt}, z ∈ joinL a b → (∃ x, x ∈ a ∧ x.1 = z.1) ∨ ∃ x, x ∈ b ∧ x.1 = z.1
  | [], b, z, h => by rw [joinL_nil'] at h; exact .inr ⟨z, h, rfl⟩
  | x :: a, [], z, h => by rw [joinL_nil] at h; exact .inl ⟨z, h, rfl⟩
  | x :: a, y :: b, z, h => by
    rw [joinL_cons] at h
    split at h
    · rcases List.mem_cons.1 h with rfl | h
      · exact .inl ⟨_, by simp, rfl⟩
      · rcases joinL_mem h with ⟨w, hw, e⟩ | ⟨w, hw, e⟩
        · exact .inl ⟨w, List.mem_cons_of_mem _ hw, e⟩
        · exact .inr ⟨w, hw, e⟩
    · split at h
      · rcases List.mem_cons.1 h with rfl | h
        · exact .inr ⟨_, by simp, rfl⟩
        · rcases joinL_mem h with ⟨w, hw, e⟩ | ⟨w, hw, e⟩
          · exact .inl ⟨w, hw, e⟩
          · exact .inr ⟨w, List.mem_cons_of_mem _ hw, e⟩
      · rcases List.mem_cons.1 h with rfl | h
        · exact .inl ⟨x, by simp, rfl⟩
        · rcases joinL_mem h with ⟨w, hw, e⟩ | ⟨w, hw, e⟩
          · exact .inl ⟨w, List.mem_cons_of_mem _ hw, e⟩
          · exact .inr ⟨w, List.mem_cons_of_mem _ hw, e⟩
termination_by a b => a.length + b.length
theorem joinL_spec : ∀ {a b : List Pt}, asc a → asc b → asc (joinL a b) ∧ ∀ v, mx (joinL a b) v = omax (mx a v) (mx b v)
  | [], b, _, hb => by rw [joinL_nil']; exact ⟨hb, fun v => rfl⟩
  | x :: a, [], ha, _ => by rw [joinL_nil]; exact ⟨ha, fun v => by rw [show mx [] v = none from rfl, omax_none]⟩
  | x :: a, y :: b, ha, hb => by
    have ha' := List.pairwise_cons.1 ha
    have hb' := List.pairwise_cons.1 hb
    rw [joinL_cons]
    split
    · rename_i e
      obtain ⟨h1, h2⟩ := joinL_spec ha'.2 hb
      refine ⟨List.pairwise_cons.2 ⟨fun z hz => ?_, h1⟩, fun v => ?_⟩
      · rcases joinL_mem hz with ⟨w, hw, e'⟩ | ⟨w, hw, e'⟩
        · have := ha'.1 w hw; omega
        · rcases List.mem_cons.1 hw with rfl | hw
          · omega
          · have := hb'.1 w hw; omega
      · rw [mx, h2, ← omax_assoc]; rfl
    · split
      · rename_i e1 e
        obtain ⟨h1, h2⟩ := joinL_spec ha hb'.2
        refine ⟨List.pairwise_cons.2 ⟨fun z hz => ?_, h1⟩, fun v => ?_⟩
        · rcases joinL_mem hz with ⟨w, hw, e'⟩ | ⟨w, hw, e'⟩
          · rcases List.mem_cons.1 hw with rfl | hw
            · omega
            · have := ha'.1 w hw; omega
          · have := hb'.1 w hw; omega
        · rw [mx, h2, show mx (y :: b) v = omax (if y.1 = v then some y.2 else none) (mx b v) from rfl, ← omax_assoc, ← omax_assoc, omax_comm (mx (x :: a) v)]
      · rename_i e1 e2
        have e : x.1 = y.1 := by omega
        obtain ⟨h1, h2⟩ := joinL_spec ha'.2 hb'.2
        refine ⟨List.pairwise_cons.2 ⟨fun z hz => ?_, h1⟩, fun v => ?_⟩
        · show x.1 < z.1
          rcases joinL_mem hz with ⟨w, hw, e'⟩ | ⟨w, hw, e'⟩
          · have := ha'.1 w hw; omega
          · have := hb'.1 w hw; omega
        · rw [mx, h2, mx, mx]
          show omax (if x.1 = v then some (max x.2 y.2) else none) _ = _
          rw [← e]
          by_cases hv : x.1 = v
          · rw [if_pos hv, if_pos hv, if_pos hv, mx_lt (l := a) fun z hz => (by have := ha'.1 z hz; omega), mx_lt (l := b) fun z hz => (by have := hb'.1 z hz; omega)]
            rfl
          · rw [if_neg hv, if_neg hv, if_neg hv]; rfl
termination_by a b => a.length + b.length

/-- the greatest number of a list of parts -/
def mostL : List Pt → Int
  | [] => -1
  | x :: l => max x.2 (mostL l)
/-- the canonical form; none: a limit is exceeded -/
def canonL (c : Int) (q : List Pt) : Option (Int × List Pt) :=
  let c' := if c ≤ mostL q then 0 else c
  if c' > 1000 ∨ mostL q > 1000 ∨ q.length > 8 then none else some (c', q)
theorem mostL_ge (l : List Pt) : -1 ≤ mostL l := by
  induction l with
  | nil => exact Int.le_refl _
  | cons x l ih => unfold mostL; omega
theorem mostL_le {l : List Pt} {b : Int} (hb : -1 ≤ b) : mostL l ≤ b ↔ ∀ x, x ∈ l → x.2 ≤ b := by
  induction l with
  | nil => simp [mostL, hb]
  | cons x l ih => simp only [mostL, List.mem_cons, forall_eq_or_imp, ← ih]; omega
theorem mostL_append (a b : List Pt) : mostL (a ++ b) = max (mostL a) (mostL b) := by
  induction a with
  | nil => have := mostL_ge b; simp [mostL]; omega
  | cons x a ih => simp only [List.cons_append, mostL, ih]; omega
end Go.VM

/- A list of parts told by functions; what is sorted by exchanging neighbours. -/
namespace Go.VM
set_option linter.unusedVariables false
set_option linter.unusedSimpArgs false

/-- the first n parts -/
def lst (V P : Nat → Int) : Nat → List Pt
  | 0 => []
  | n + 1 => lst V P n ++ [(V n, P n)]
theorem lst_length (V P : Nat → Int) : ∀ n, (lst V P n).length = n
  | 0 => rfl
  | n + 1 => by simp [lst, lst_length V P n]
theorem lst_mem {V P : Nat → Int} {x : Pt} : ∀ {n}, x ∈ lst V P n ↔ ∃ i, i < n ∧ x = (V i, P i)
  | 0 => by simp [lst]
  | n + 1 => by
    simp only [lst, List.mem_append, List.mem_singleton, lst_mem (n := n)]
    constructor
    · rintro (⟨i, h, e⟩ | e)
      · exact ⟨i, by omega, e⟩
      · exact ⟨n, by omega, e⟩
    · rintro ⟨i, h, e⟩
      by_cases h' : i = n
      · subst h'; exact .inr e
      · exact .inl ⟨i, by omega, e⟩
theorem lst_congr {V P V' P' : Nat → Int} : ∀ {n}, (∀ i, i < n → V' i = V i ∧ P' i = P i) → lst V' P' n = lst V P n
  | 0, _ => rfl
  | n + 1, h => by
    unfold lst
    rw [lst_congr (n := n) fun i hi => h i (by omega), (h n (by omega)).1, (h n (by omega)).2]
theorem lst_add (V P : Nat → Int) (n : Nat) : ∀ m, lst V P (n + m) = lst V P n ++ lst (fun i => V (n + i)) (fun i => P (n + i)) m
  | 0 => by simp [lst]
  | m + 1 => by
    rw [show n + (m + 1) = n + m + 1 by omega]
    simp only [lst, lst_add V P n m, List.append_assoc]
theorem lst_split (V P : Nat → Int) {k n : Nat} (h : k ≤ n) : lst V P n = lst V P k ++ lst (fun i => V (k + i)) (fun i => P (k + i)) (n - k) := by
  rw [← lst_add, show k + (n - k) = n by omega]
theorem lst_cons (V P : Nat → Int) (n : Nat) : lst V P (n + 1) = (V 0, P 0) :: lst (fun i => V (i + 1)) (fun i => P (i + 1)) n := by
  rw [show n + 1 = 1 + n by omega, lst_add]
  simp only [lst, List.nil_append, List.singleton_append]
  congr 1
  exact lst_congr fun i _ => ⟨by rw [show i + 1 = 1 + i by omega], by rw [show i + 1 = 1 + i by omega]⟩
theorem lst_get (V P : Nat → Int) : ∀ {n i : Nat}, i < n → (lst V P n)[i]? = some (V i, P i)
  | n + 1, i, h => by
    unfold lst
    by_cases e : i = n
    · subst e
      rw [List.getElem?_append_right (by rw [lst_length]; exact Nat.le_refl _), lst_length]; simp
    · rw [List.getElem?_append_left (by rw [lst_length]; omega)]
      exact lst_get V P (by omega)
theorem mostF_lst (V P : Nat → Int) : ∀ n, mostL (lst V P n) = mostF P n
  | 0 => rfl
  | n + 1 => by have := mostF_ge P n; rw [lst, mostL_append, mostF_lst V P n, mostF]; simp [mostL]; omega

theorem mx_perm {a b : List Pt} (h : a.Perm b) (v : Int) : mx a v = mx b v := by
  induction h with
  | nil => rfl
  | cons x _ ih => simp only [mx, ih]
  | swap x y l => simp only [mx, ← omax_assoc]; rw [omax_comm (if y.1 = v then _ else _)]
  | trans _ _ h1 h2 => rw [h1, h2]

/-- the places j - 1 and j exchanged -/
def swp (f : Nat → Int) (j : Nat) : Nat → Int := fun i => if i = j then f (j - 1) else if i = j - 1 then f j else f i
theorem lst_swp (V P : Nat → Int) {j : Nat} (h0 : 0 < j) : ∀ {n : Nat}, j < n → (lst (swp V j) (swp P j) n).Perm (lst V P n)
  | n + 1, h => by
    by_cases e : j = n
    · obtain ⟨k, rfl⟩ : ∃ k, n = k + 1 := ⟨n - 1, by omega⟩
      subst e
      simp only [lst]
      have e1 : lst (swp V (k + 1)) (swp P (k + 1)) k = lst V P k := lst_congr fun i hi => by unfold swp; rw [if_neg (by omega), if_neg (by omega), if_neg (by omega), if_neg (by omega)]; exact ⟨rfl, rfl⟩
      have e2 : ∀ f : Nat → Int, swp f (k + 1) (k + 1) = f k := fun f => by unfold swp; rw [if_pos rfl]; rfl
      have e3 : ∀ f : Nat → Int, swp f (k + 1) k = f (k + 1) := fun f => by unfold swp; rw [if_neg (by omega), if_pos (by omega)]
      rw [e1, e2, e2, e3, e3, List.append_assoc, List.append_assoc]
      exact List.Perm.append_left _ (List.Perm.swap _ _ _)
    · have e2 : ∀ f : Nat → Int, swp f j n = f n := fun f => by unfold swp; rw [if_neg (by omega), if_neg (by omega)]
      simp only [lst, e2]
      exact (lst_swp V P h0 (by omega)).append_right _

/-- the first i are in order -/
def upTo (V : Nat → Int) (i : Nat) : Prop := ∀ k l, k < l → l < i → V k ≤ V l
/-- the first i + 1 are in order but for the one at j, which is less than all behind it -/
def upBut (V : Nat → Int) (i j : Nat) : Prop := j ≤ i ∧ (∀ k l, k < l → l ≤ i → k ≠ j → l ≠ j → V k ≤ V l) ∧ ∀ l, j < l → l ≤ i → V j < V l
theorem upBut_start {V : Nat → Int} {i : Nat} (h : upTo V i) : upBut V i i := ⟨Nat.le_refl _, fun k l h1 h2 h3 h4 => h k l h1 (by omega), fun l h1 h2 => by omega⟩
theorem upBut_step {V : Nat → Int} {i j : Nat} (h : upBut V i j) (hj : 0 < j) (hlt : V j < V (j - 1)) : upBut (swp V j) i (j - 1) := by
  obtain ⟨h1, h2, h3⟩ := h
  refine ⟨by omega, fun k l a b c d => ?_, fun l a b => ?_⟩
  · unfold swp
    by_cases e1 : k = j
    · rw [if_pos e1, if_neg (by omega), if_neg (by omega)]
      exact h2 _ _ (by omega) b (by omega) (by omega)
    · rw [if_neg e1, if_neg (by omega)]
      by_cases e2 : l = j
      · rw [if_pos e2]; exact h2 _ _ (by omega) (by omega) (by omega) (by omega)
      · rw [if_neg e2, if_neg (by omega)]; exact h2 _ _ a b e1 e2
  · unfold swp
    rw [if_neg (by omega), if_pos rfl]
    by_cases e2 : l = j
    · rw [if_pos e2]; exact hlt
    · rw [if_neg e2, if_neg (by omega)]; exact h3 l (by omega) b
theorem upBut_end {V : Nat → Int} {i j : Nat} (h : upBut V i j) (hj : j = 0 ∨ V (j - 1) ≤ V j) : upTo V (i + 1) := by
  obtain ⟨h1, h2, h3⟩ := h
  intro k l a b
  by_cases e1 : l = j
  · rcases hj with hj | hj
    · omega
    · by_cases e2 : k = j - 1
      · rw [e1, e2]; exact hj
      · have := h2 k (j - 1) (by omega) (by omega) (by omega) (by omega)
        rw [e1]; omega
  · by_cases e2 : k = j
    · have := h3 l (by omega) (by omega)
      rw [e2]; omega
    · exact h2 k l a (by omega) e2 e1
def dist (V : Nat → Int) (n : Nat) : Prop := ∀ i k, k < i → i < n → V k ≠ V i
theorem dist_nodup {V P : Nat → Int} : ∀ {n : Nat}, dist V n ↔ ((lst V P n).map (·.1)).Nodup
  | 0 => by simp [lst, dist]
  | n + 1 => by
    simp only [lst, List.map_append, List.map_cons, List.map_nil, List.nodup_append, List.nodup_cons, List.not_mem_nil, not_false_eq_true, List.nodup_nil, and_self, List.mem_singleton, forall_eq, true_and]
    rw [← dist_nodup (n := n)]
    constructor
    · intro h
      refine ⟨fun i k a b => h i k a (by omega), fun x hx => ?_⟩
      obtain ⟨y, hy, rfl⟩ := List.mem_map.1 hx
      obtain ⟨k, hk, rfl⟩ := lst_mem.1 hy
      exact h n k hk (by omega)
    · rintro ⟨h1, h2⟩ i k a b
      by_cases e : i = n
      · subst e
        exact h2 _ (List.mem_map.2 ⟨_, lst_mem.2 ⟨k, a, rfl⟩, rfl⟩)
      · exact h1 i k a (by omega)
theorem dist_perm {V P V' P' : Nat → Int} {n : Nat} (h : (lst V' P' n).Perm (lst V P n)) (hd : dist V n) : dist V' n :=
  (dist_nodup (P := P')).2 ((h.map _).nodup_iff.2 ((dist_nodup (P := P)).1 hd))
theorem lst_asc {V P : Nat → Int} : ∀ {n : Nat}, (∀ k l, k < l → l < n → V k < V l) → asc (lst V P n)
  | 0, _ => by simp [lst, asc]
  | n + 1, h => by
    refine List.pairwise_append.2 ⟨lst_asc fun k l a b => h k l a (by omega), by simp, fun x hx y hy => ?_⟩
    obtain ⟨k, hk, rfl⟩ := lst_mem.1 hx
    obtain rfl := List.mem_singleton.1 hy
    exact h k n hk (by omega)
/-- sorted and distinct: ascending -/
theorem sorted_asc {V P V' P' : Nat → Int} {n : Nat} (h : (lst V' P' n).Perm (lst V P n)) (hd : dist V n) (hu : upTo V' n) : asc (lst V' P' n) :=
  lst_asc fun k l a b => by
    have h1 := hu k l a b
    have h2 := dist_perm h hd l k a b
    omega
theorem asc_dist {V P : Nat → Int} {n : Nat} (h : asc (lst V P n)) : ∀ k l, k < l → l < n → V k < V l := by
  intro k l a b
  have := List.pairwise_iff_getElem.1 h k l (by rw [lst_length]; omega) (by rw [lst_length]; omega) a
  have e1 := lst_get V P (n := n) (i := k) (by omega)
  have e2 := lst_get V P (n := n) (i := l) b
  rw [List.getElem?_eq_getElem (by rw [lst_length]; omega)] at e1 e2
  rw [Option.some.inj e1, Option.some.inj e2] at this
  exact this
end Go.VM

/- How values at 0 and 1001 tell the order. -/
namespace Go.VM
set_option linter.unusedVariables false
set_option linter.unusedSimpArgs false

/-- the assignment of one choice: variable U j has the number w j -/
def pickF (U w : Nat → Int) : Nat → Int → Int
  | 0, _ => 0
  | j + 1, v => if v = U j then w j else pickF U w j v
theorem pickF_at {U w : Nat → Int} : ∀ {m : Nat}, dist U m → ∀ j, j < m → pickF U w m (U j) = w j
  | m + 1, hd, j, hj => by
    unfold pickF
    by_cases e : j = m
    · subst e; rw [if_pos rfl]
    · rw [if_neg fun h => hd m j (by omega) (by omega) h]
      exact pickF_at (fun i k a b => hd i k a (by omega)) j (by omega)
theorem pickF_ge {U w : Nat → Int} (h : ∀ j, 0 ≤ w j) : ∀ (m : Nat) (v : Int), 0 ≤ pickF U w m v
  | 0, _ => Int.le_refl _
  | m + 1, v => by unfold pickF; split; exact h m; exact pickF_ge h m v
theorem pickF_le {U w : Nat → Int} {b : Int} (hb : 0 ≤ b) (h : ∀ j, w j ≤ b) : ∀ (m : Nat) (v : Int), pickF U w m v ≤ b
  | 0, _ => hb
  | m + 1, v => by unfold pickF; split; exact h m; exact pickF_le hb h m v
theorem evV_congr {V P : Nat → Int} {x y : Int → Int} {c : Int} : ∀ {n : Nat}, (∀ i, i < n → x (V i) = y (V i)) → evV V P x c n = evV V P y c n
  | 0, _ => rfl
  | n + 1, h => by unfold evV; rw [evV_congr (n := n) fun i hi => h i (by omega), h n (by omega)]
/-- the numbers of choice p -/
def wP (p : Nat) (j : Nat) : Int := ((p / 2 ^ j % 2 : Nat) : Int) * 1001
theorem wP_range (p j : Nat) : 0 ≤ wP p j ∧ wP p j ≤ 1001 := by unfold wP; omega
theorem wP_zero (j : Nat) : wP 0 j = 0 := by unfold wP; simp
theorem wP_one : ∀ j, j < 5 → ∀ k, k < 5 → wP (2 ^ j) k = if k = j then 1001 else 0 := by decide

theorem tells {c c' : Int} {n n' : Nat} {V P V' P' U : Nat → Int} {m : Nat} (ha : ValidP c n V P) (hb : ValidP c' n' V' P') (hm : m ≤ 5) (hd : dist U m)
    (h1 : ∀ i, i < n → ∃ j, j < m ∧ U j = V i) (h2 : ∀ i, i < n' → ∃ j, j < m ∧ U j = V' i) :
    (∀ p, p < 2 ^ m → evV V P (pickF U (wP p) m) c n ≤ evV V' P' (pickF U (wP p) m) c' n') ↔ LeqP c n V P c' n' V' P' := by
  refine ⟨fun h => ?_, fun h p _ => leq_ev _ (fun v => pickF_ge (fun j => (wP_range p j).1) m v) hb.1 h⟩
  refine leq_of_ev ha hb ?_ fun i hi => ?_
  · have := h 0 (Nat.pow_pos (by decide))
    rwa [evV_congr (V := V) (y := fun _ => 0) fun i hi => ?_, evV_congr (V := V') (y := fun _ => 0) fun i hi => ?_] at this
    · obtain ⟨j, hj, e⟩ := h2 i hi
      rw [← e, pickF_at hd j hj, wP_zero]
    · obtain ⟨j, hj, e⟩ := h1 i hi
      rw [← e, pickF_at hd j hj, wP_zero]
  · obtain ⟨j, hj, e⟩ := h1 i hi
    have key : ∀ k, k < m → wP (2 ^ j) k = if U k = V i then 1001 else 0 := fun k hk => by
      rw [wP_one j (by omega) k (by omega)]
      by_cases ek : k = j
      · subst ek; rw [if_pos rfl, if_pos e]
      · rw [if_neg ek, if_neg]
        intro e2
        rcases Nat.lt_or_gt_of_ne ek with hl | hl
        · exact hd j k hl hj (e2.trans e.symm)
        · exact hd k j hl hk (e.trans e2.symm)
    have := h (2 ^ j) (Nat.pow_lt_pow_right (by decide) hj)
    rwa [evV_congr (V := V) (y := fun v => if v = V i then 1001 else 0) fun k hk => ?_, evV_congr (V := V') (y := fun v => if v = V i then 1001 else 0) fun k hk => ?_] at this
    · obtain ⟨l, hl, el⟩ := h2 k hk
      rw [← el, pickF_at hd l hl, key l hl]
    · obtain ⟨l, hl, el⟩ := h1 k hk
      rw [← el, pickF_at hd l hl, key l hl]
end Go.VM

/- Parts put in: how a list grows at its end. -/
namespace Go.VM
set_option linter.unusedVariables false
set_option linter.unusedSimpArgs false
def ext (f : Nat → Int) (m : Nat) (x : Int) : Nat → Int := fun j => if j = m then x else f j
theorem ext_eq (f : Nat → Int) (m : Nat) (x : Int) : ext f m x m = x := if_pos rfl
theorem ext_ne {f : Nat → Int} {m j : Nat} {x : Int} (h : j ≠ m) : ext f m x j = f j := if_neg h
theorem lst_ext (V P : Nat → Int) (m : Nat) (v p : Int) : lst (ext V m v) (ext P m p) (m + 1) = lst V P m ++ [(v, p)] := by
  show lst (ext V m v) (ext P m p) m ++ [(ext V m v m, ext P m p m)] = _
  rw [ext_eq, ext_eq, lst_congr (V := V) (P := P) (n := m) fun i hi => ⟨ext_ne (by omega), ext_ne (by omega)⟩]
theorem ext_row (V P : Nat → Int) (m : Nat) (v p : Int) (i j : Nat) (hi : i < m + 1) (hj : j < 2) : appF m (lvF V P) (rowF 2 [.int .i64 v, .int .i64 p]) i j = lvF (ext V m v) (ext P m p) i j :=
  app_row2 (g' := lvF (ext V m v) (ext P m p)) (fun i j h1 h2 => by
    match j, h2 with
    | 0, _ => simp only [lvF, ext_ne (show i ≠ m by omega)]
    | 1, _ => simp only [lvF, ext_ne (show i ≠ m by omega)]) (fun j hj => by
    match j, hj with
    | 0, _ => simp [lvF, ext_eq]
    | 1, _ => simp [lvF, ext_eq]) i j hi hj
theorem ext_row2 (V P : Nat → Int) (m : Nat) (v p v' p' : Int) (i j : Nat) (hi : i < m + 1 + 1) (hj : j < 2) :
    appF (m + 1) (appF m (lvF V P) (rowF 2 [.int .i64 v, .int .i64 p])) (rowF 2 [.int .i64 v', .int .i64 p']) i j = lvF (ext (ext V m v) (m + 1) v') (ext (ext P m p) (m + 1) p') i j := by
  rw [← ext_row _ _ _ _ _ i j hi hj]
  unfold appF
  by_cases h : i < m + 1
  · rw [if_pos h, if_pos h]
    exact ext_row V P m v p i j h hj
  · rw [if_neg h, if_neg h]
theorem putL_low {x : Pt} : ∀ {l r : List Pt}, (∀ y, y ∈ l → y.1 < x.1) → putL x (l ++ r) = l ++ putL x r
  | [], r, _ => rfl
  | y :: l, r, h => by
    have hy := h y (by simp)
    simp only [List.cons_append, putL]
    rw [if_neg (by omega), if_neg (by omega), putL_low fun z hz => h z (by simp [hz])]
theorem putL_end {x : Pt} {l : List Pt} (h : ∀ y, y ∈ l → y.1 < x.1) : putL x l = l ++ [x] := by
  have := putL_low (r := []) h
  simpa [putL] using this
theorem putL_snoc {x y : Pt} : ∀ {l : List Pt}, (∃ z, z ∈ l ∧ x.1 ≤ z.1) → (∀ z, z ∈ l → z.1 < y.1) → putL x (l ++ [y]) = putL x l ++ [y]
  | [], h, _ => by obtain ⟨z, hz, _⟩ := h; simp at hz
  | w :: l, h, hy => by
    simp only [List.cons_append, putL]
    split
    · rfl
    · split
      · rfl
      · rename_i h1 h2
        rw [List.cons_append, putL_snoc (l := l) ?_ fun z hz => hy z (by simp [hz])]
        obtain ⟨z, hz, hx⟩ := h
        rcases List.mem_cons.1 hz with rfl | hz
        · omega
        · exact ⟨z, hz, hx⟩
/-- what has been put so far -/
def PutS (V P : Nat → Int) (v p : Int) (i : Nat) (done : Bool) (l : List Pt) : Prop :=
  (done = false ∧ (∀ k, k < i → V k < v) ∧ l = lst V P i) ∨ (done = true ∧ (∃ k, k < i ∧ v ≤ V k) ∧ l = putL (v, p) (lst V P i))
theorem PutS.zero (V P : Nat → Int) (v p : Int) : PutS V P v p 0 false [] := .inl ⟨rfl, fun k hk => absurd hk (Nat.not_lt_zero _), rfl⟩
theorem PutS.lt {V P : Nat → Int} {v p : Int} {i : Nat} {l : List Pt} (h : PutS V P v p i false l) (hv : v < V i) : PutS V P v p (i + 1) true (l ++ [(v, p)] ++ [(V i, P i)]) := by
  rcases h with ⟨_, h1, rfl⟩ | ⟨h, _⟩
  · refine .inr ⟨rfl, ⟨i, by omega, by omega⟩, ?_⟩
    rw [lst, putL_low fun y hy => by obtain ⟨k, hk, rfl⟩ := lst_mem.1 hy; exact h1 k hk]
    simp [putL, hv]
  · cases h
theorem PutS.eq {V P : Nat → Int} {v p : Int} {i : Nat} {l : List Pt} (h : PutS V P v p i false l) (hv : v = V i) : PutS V P v p (i + 1) true (l ++ [(V i, max p (P i))]) := by
  rcases h with ⟨_, h1, rfl⟩ | ⟨h, _⟩
  · refine .inr ⟨rfl, ⟨i, by omega, by omega⟩, ?_⟩
    rw [lst, putL_low fun y hy => by obtain ⟨k, hk, rfl⟩ := lst_mem.1 hy; exact h1 k hk]
    simp [putL, hv]
  · cases h
theorem PutS.gt {V P : Nat → Int} {v p : Int} {i : Nat} {l : List Pt} (h : PutS V P v p i false l) (hv : V i < v) : PutS V P v p (i + 1) false (l ++ [(V i, P i)]) := by
  rcases h with ⟨_, h1, rfl⟩ | ⟨h, _⟩
  · refine .inl ⟨rfl, fun k hk => ?_, rfl⟩
    by_cases e : k = i
    · subst e; exact hv
    · exact h1 k (by omega)
  · cases h
theorem PutS.up {V P : Nat → Int} {v p : Int} {i n : Nat} {l : List Pt} (hasc : ∀ k l, k < l → l < n → V k < V l) (hi : i < n) (h : PutS V P v p i true l) : v < V i ∧ PutS V P v p (i + 1) true (l ++ [(V i, P i)]) := by
  rcases h with ⟨h, _⟩ | ⟨_, ⟨k, hk, hv⟩, rfl⟩
  · cases h
  · have := hasc k i hk hi
    refine ⟨by omega, .inr ⟨rfl, ⟨k, by omega, hv⟩, ?_⟩⟩
    rw [lst, putL_snoc ⟨_, lst_mem.2 ⟨k, hk, rfl⟩, hv⟩ fun y hy => by obtain ⟨j, hj, rfl⟩ := lst_mem.1 hy; exact hasc j i hj hi]
theorem PutS.fin {V P : Nat → Int} {v p : Int} {n : Nat} {d : Bool} {l : List Pt} (h : PutS V P v p n d l) : (d = true → l = putL (v, p) (lst V P n)) ∧ (d = false → l ++ [(v, p)] = putL (v, p) (lst V P n)) := by
  rcases h with ⟨rfl, h1, rfl⟩ | ⟨rfl, _, rfl⟩
  · exact ⟨fun h => (by cases h), fun _ => (putL_end fun y hy => by obtain ⟨k, hk, rfl⟩ := lst_mem.1 hy; exact h1 k hk).symm⟩
  · exact ⟨fun _ => rfl, fun h => (by cases h)⟩
end Go.VM

/- What the assignments of LevelTells tell. -/
namespace Go.VM
set_option linter.unusedVariables false
set_option linter.unusedSimpArgs false

/-- the first m numbers are in ascending order -/
def ascF (U : Nat → Int) (m : Nat) : Prop := ∀ k l, k < l → l < m → U k < U l
theorem ascF.dist {U : Nat → Int} {m : Nat} (h : ascF U m) : dist U m := fun i k a b => by have := h k i a b; omega
theorem ascF.le {U : Nat → Int} {m j : Nat} (h : ascF U m) (hj : j < m) : U j ≤ U (m - 1) := by
  by_cases e : j = m - 1
  · rw [e]; exact Int.le_refl _
  · have := h j (m - 1) (by omega) (by omega); omega
/-- U are the first n numbers V, in ascending order -/
def VarsP (V : Nat → Int) (n : Nat) (U : Nat → Int) (m : Nat) : Prop := ascF U m ∧ (∀ i, i < n → ∃ j, j < m ∧ U j = V i) ∧ (∀ j, j < m → ∃ i, i < n ∧ V i = U j)
theorem mem_putL {x y : Pt} (hx : x.2 = 0) : ∀ {l : List Pt}, (∀ z, z ∈ l → z.2 = 0) → (y ∈ putL x l ↔ y = x ∨ y ∈ l)
  | [], _ => by simp [putL]
  | z :: r, h => by
    unfold putL
    have hz := h z List.mem_cons_self
    have ih := mem_putL (y := y) hx (l := r) fun w hw => h w (List.mem_cons_of_mem _ hw)
    split
    · simp
    · split
      · rename_i h1 h2
        have e : z = x := Prod.ext (by omega) (by omega)
        subst e
        have e2 : (z.1, max z.2 z.2) = z := Prod.ext rfl (by simp)
        simp_all
      · simp only [List.mem_cons, ih]
        constructor
        · rintro (h | h | h) <;> simp_all
        · rintro (h | h | h) <;> simp_all
theorem putL_zero {x : Pt} (hx : x.2 = 0) {l : List Pt} (h : ∀ z, z ∈ l → z.2 = 0) : ∀ z, z ∈ putL x l → z.2 = 0 := fun z hz => by
  rcases (mem_putL hx h).1 hz with rfl | h2
  · exact hx
  · exact h z h2
theorem mem_putsL {y : Pt} : ∀ {r l : List Pt}, (∀ z, z ∈ l → z.2 = 0) → (∀ z, z ∈ r → z.2 = 0) → (y ∈ putsL l r ↔ y ∈ l ∨ y ∈ r)
  | [], l, _, _ => by simp [putsL]
  | x :: r, l, h, hr => by
    have hx := hr x List.mem_cons_self
    have hr' : ∀ z, z ∈ r → z.2 = 0 := fun z hz => hr z (List.mem_cons_of_mem _ hz)
    unfold putsL
    rw [mem_putsL (putL_zero hx h) hr', mem_putL hx h]
    simp only [List.mem_cons]
    constructor
    · rintro ((h | h) | h) <;> simp_all
    · rintro (h | h | h) <;> simp_all
/-- the variables of parts that are put into order -/
theorem VarsP.puts {V U Z : Nat → Int} {n m : Nat} (h : lst U Z m = putsL [] (lst V (fun _ => 0) n)) : VarsP V n U m := by
  have h0 : ∀ z, z ∈ lst V (fun _ => 0) n → z.2 = 0 := fun z hz => by
    obtain ⟨i, _, rfl⟩ := lst_mem.1 hz; rfl
  have hm : ∀ y, y ∈ lst U Z m ↔ y ∈ lst V (fun _ => 0) n := fun y => by
    rw [h, mem_putsL (fun z hz => by cases hz) h0]
    simp
  have ha : asc (lst U Z m) := by rw [h]; exact putsL_asc (by simp [asc])
  refine ⟨asc_dist ha, fun i hi => ?_, fun j hj => ?_⟩
  · obtain ⟨j, hj, e⟩ := lst_mem.1 ((hm (V i, 0)).2 (lst_mem.2 ⟨i, hi, rfl⟩))
    exact ⟨j, hj, (congrArg Prod.fst e).symm⟩
  · obtain ⟨i, hi, e⟩ := lst_mem.1 ((hm (U j, Z j)).1 (lst_mem.2 ⟨j, hj, rfl⟩))
    exact ⟨i, hi, (congrArg Prod.fst e).symm⟩
/-- the list of numbers, as it stands after i choices -/
def pickN (U w : Nat → Int) (i : Nat) : Nat → Int := fun k => pickF U w i k
theorem pickN_zero (U w : Nat → Int) (k : Nat) : pickN U w 0 k = 0 := rfl
theorem pickN_succ (U w : Nat → Int) (i : Nat) (hU : 0 ≤ U i) (k : Nat) : pickN U w (i + 1) k = if k = (U i).toNat then w i else pickN U w i k := by
  unfold pickN
  rw [pickF]
  by_cases e : (k : Int) = U i
  · rw [if_pos e, if_pos (by omega)]
  · rw [if_neg e, if_neg (by omega)]
/-- what a level's variable reads there -/
theorem pick_at {V U w : Nat → Int} {n m i top k : Nat} (h : VarsP V n U m) (hi : i < n) (h0 : ∀ i, i < n → 0 ≤ V i) (ht : (top : Int) = if m = 0 then 0 else U (m - 1) + 1) (hw : ∀ j, 0 ≤ w j) : atF top (pickN U w k) (V i) = pickF U w k (V i) := by
  obtain ⟨j, hj, e⟩ := h.2.1 i hi
  have := h.1.le hj
  rw [if_neg (by omega)] at ht
  have h1 := h0 i hi
  have h2 := pickF_ge (U := U) hw k (V i)
  unfold atF
  rw [if_pos (by omega)]
  unfold pickN
  rw [Int.toNat_of_nonneg h1]
  omega
/-- the variables of a level among those of two -/
theorem VarsP.sub {V U V1 : Nat → Int} {n m n1 : Nat} (h : VarsP V n U m) (hs : ∀ i, i < n1 → ∃ j, j < n ∧ V j = V1 i) : ∀ i, i < n1 → ∃ j, j < m ∧ U j = V1 i := fun i hi => by
  obtain ⟨j, hj, e⟩ := hs i hi
  obtain ⟨k, hk, e2⟩ := h.2.1 j hj
  exact ⟨k, hk, e2.trans e⟩
theorem pick_at2 {V1 U w : Nat → Int} {n1 m i top k : Nat} (ha : ascF U m) (hs : ∀ i, i < n1 → ∃ j, j < m ∧ U j = V1 i) (hi : i < n1) (h0 : 0 ≤ V1 i) (ht : (top : Int) = if m = 0 then 0 else U (m - 1) + 1) (hw : ∀ j, 0 ≤ w j) : atF top (pickN U w k) (V1 i) = pickF U w k (V1 i) := by
  obtain ⟨j, hj, e⟩ := hs i hi
  have := ha.le hj
  rw [if_neg (by omega)] at ht
  have h2 := pickF_ge (U := U) hw k (V1 i)
  unfold atF
  rw [if_pos (by omega)]
  unfold pickN
  rw [Int.toNat_of_nonneg h0]
  omega
/-- the value at an assignment -/
theorem eval_pick {V1 P1 U w : Nat → Int} {c : Int} {n1 m top k : Nat} (ha : ascF U m) (hs : ∀ i, i < n1 → ∃ j, j < m ∧ U j = V1 i) (h0 : ∀ i, i < n1 → 0 ≤ V1 i) (ht : (top : Int) = if m = 0 then 0 else U (m - 1) + 1) (hw : ∀ j, 0 ≤ w j ∧ w j ≤ 2000000000) :
    evalF V1 P1 top (pickN U w k) c n1 = some (evV V1 P1 (pickF U w k) c n1) :=
  evalF_some V1 P1 top _ c _ n1 fun i hi => ⟨pick_at2 ha hs hi (h0 i hi) ht fun j => (hw j).1, by have := pickF_le (U := U) (b := 2000000000) (by decide) (fun j => (hw j).2) k (V1 i); omega⟩
end Go.VM

/- Levels put in: the parts and the number of what comes out. -/
namespace Go.VM
set_option linter.unusedVariables false
set_option linter.unusedSimpArgs false
/-- the parts of what is put in for one part -/
def big1 (m : Nat) (B : Nat → List Pt) (x : Pt) : List Pt := if x.1 < m then (B x.1.toNat).map fun y => (y.1, y.2 + x.2) else [x]
def big (m : Nat) (B : Nat → List Pt) : List Pt → List Pt
  | [] => []
  | x :: l => big1 m B x ++ big m B l
theorem big_append (m : Nat) (B : Nat → List Pt) : ∀ a b, big m B (a ++ b) = big m B a ++ big m B b
  | [], b => rfl
  | x :: a, b => by simp only [List.cons_append, big, big_append m B a b, List.append_assoc]
theorem big_snoc (m : Nat) (B : Nat → List Pt) (l : List Pt) (x : Pt) : big m B (l ++ [x]) = big m B l ++ big1 m B x := by
  rw [big_append]; simp [big]
theorem big_perm (m : Nat) (B : Nat → List Pt) {a b : List Pt} (h : a.Perm b) : (big m B a).Perm (big m B b) := by
  induction h with
  | nil => exact .refl _
  | cons x _ ih => exact ih.append_left _
  | swap x y l =>
    simp only [big, ← List.append_assoc]
    exact List.perm_append_comm.append_right _
  | trans _ _ h1 h2 => exact h1.trans h2
/-- the number of what comes out -/
def sc (m : Nat) (C : Nat → Int) (c : Int) : List Pt → Int
  | [] => c
  | x :: l => if x.1 < m then max (C x.1.toNat + x.2) (sc m C c l) else sc m C c l
theorem sc_perm (m : Nat) (C : Nat → Int) (c : Int) {a b : List Pt} (h : a.Perm b) : sc m C c a = sc m C c b := by
  induction h with
  | nil => rfl
  | cons x _ ih => simp only [sc, ih]
  | swap x y l => simp only [sc]; split <;> split <;> omega
  | trans _ _ h1 h2 => exact h1.trans h2
theorem sc_snoc (m : Nat) (C : Nat → Int) (c : Int) (l : List Pt) (x : Pt) : sc m C c (l ++ [x]) = if x.1 < m then max (sc m C c l) (C x.1.toNat + x.2) else sc m C c l := by
  rw [sc_perm m C c (b := x :: l) List.perm_append_comm]
  simp only [sc]; split <;> omega
theorem sc_ge (m : Nat) (C : Nat → Int) (c : Int) : ∀ l, c ≤ sc m C c l
  | [] => Int.le_refl _
  | x :: l => by have := sc_ge m C c l; simp only [sc]; split <;> omega
theorem mx_mem : ∀ {l : List Pt} {x : Pt}, x ∈ l → ∃ y, mx l x.1 = some y ∧ x.2 ≤ y
  | [], x, h => by cases h
  | z :: l, x, h => by
    simp only [mx]
    rcases List.mem_cons.1 h with rfl | h
    · rw [if_pos rfl]
      cases mx l x.1 with
      | none => exact ⟨_, rfl, Int.le_refl _⟩
      | some y => exact ⟨_, rfl, by omega⟩
    · obtain ⟨y, e, hy⟩ := mx_mem h
      rw [e]
      split
      · exact ⟨_, rfl, by omega⟩
      · exact ⟨_, rfl, hy⟩
theorem mx_most : ∀ {l : List Pt} {v y : Int}, mx l v = some y → y ≤ mostL l
  | [], v, y, h => by cases h
  | z :: l, v, y, h => by
    simp only [mx] at h
    simp only [mostL]
    cases e : mx l v with
    | none =>
      rw [e] at h
      split at h
      · have h := Option.some.inj h; omega
      · cases h
    | some w =>
      have := mx_most e
      rw [e] at h
      split at h
      · have h := Option.some.inj h; omega
      · have h := Option.some.inj h; omega
/-- the number that the program keeps: as sc, or that of a part that stays -/
def ScOk (m : Nat) (C : Nat → Int) (c : Int) (l : List Pt) (c1 : Int) : Prop := c1 = sc m C c l ∨ (sc m C c l ≤ c1 ∧ ∃ x, x ∈ l ∧ ¬ x.1 < m ∧ x.2 = c1)
theorem ScOk.nil (m : Nat) (C : Nat → Int) (c : Int) : ScOk m C c [] c := .inl rfl
theorem ScOk.put {m : Nat} {C : Nat → Int} {c : Int} {l : List Pt} {c1 : Int} {x : Pt} (h : ScOk m C c l c1) (hx : x.1 < m) : ScOk m C c (l ++ [x]) (max c1 (C x.1.toNat + x.2)) := by
  unfold ScOk
  rw [sc_snoc, if_pos hx]
  rcases h with rfl | ⟨h1, y, h2, h3, rfl⟩
  · exact .inl rfl
  · by_cases e : C x.1.toNat + x.2 ≤ y.2
    · exact .inr ⟨by omega, y, List.mem_append_left _ h2, h3, by omega⟩
    · exact .inl (by omega)
theorem ScOk.stay {m : Nat} {C : Nat → Int} {c : Int} {l : List Pt} {c1 : Int} {x : Pt} (h : ScOk m C c l c1) (hx : ¬ x.1 < m) : ScOk m C c (l ++ [x]) (max c1 x.2) := by
  unfold ScOk
  rw [sc_snoc, if_neg hx]
  by_cases e : x.2 ≤ c1
  · rw [show max c1 x.2 = c1 by omega]
    rcases h with rfl | ⟨h1, y, h2, h3, h4⟩
    · exact .inl rfl
    · exact .inr ⟨h1, y, List.mem_append_left _ h2, h3, h4⟩
  · refine .inr ⟨?_, x, by simp, hx, by omega⟩
    rcases h with rfl | ⟨h1, _⟩ <;> omega
theorem big1_mem {m : Nat} {B : Nat → List Pt} : ∀ {l : List Pt} {x : Pt}, x ∈ l → ¬ x.1 < m → x ∈ big m B l
  | [], x, h, _ => by cases h
  | z :: l, x, h, hx => by
    rcases List.mem_cons.1 h with rfl | h
    · exact List.mem_append_left _ (by unfold big1; rw [if_neg hx]; simp)
    · exact List.mem_append_right _ (big1_mem h hx)
theorem ScOk.canon {m : Nat} {C : Nat → Int} {B : Nat → List Pt} {c : Int} {l q : List Pt} {c1 : Int} (h : ScOk m C c l c1) (hq : ∀ v, mx q v = mx (big m B l) v) : canonL c1 q = canonL (sc m C c l) q := by
  rcases h with rfl | ⟨h1, x, h2, h3, h4⟩
  · rfl
  · obtain ⟨y, e, hy⟩ := mx_mem (big1_mem (B := B) h2 h3)
    rw [← hq] at e
    have := mx_most e
    unfold canonL
    rw [if_pos (show c1 ≤ mostL q by omega), if_pos (show sc m C c l ≤ mostL q by omega)]
end Go.VM

/- The lattice of levels, on lists of parts. -/
namespace Go.VM
set_option linter.unusedVariables false
set_option linter.unusedSimpArgs false
def LeqQ (c : Int) (l : List Pt) (c' : Int) (l' : List Pt) : Prop := (∀ x, x ∈ l → ∃ y, y ∈ l' ∧ y.1 = x.1 ∧ x.2 ≤ y.2) ∧ c ≤ max c' (mostL l')
theorem LeqP_Q {c c' : Int} {n n' : Nat} {V P V' P' : Nat → Int} : LeqP c n V P c' n' V' P' ↔ LeqQ c (lst V P n) c' (lst V' P' n') := by
  unfold LeqP LeqQ
  rw [mostF_lst]
  refine and_congr ⟨fun h x hx => ?_, fun h i hi => ?_⟩ Iff.rfl
  · obtain ⟨i, hi, rfl⟩ := lst_mem.1 hx
    obtain ⟨k, h1, h2, h3⟩ := h i hi
    exact ⟨_, lst_mem.2 ⟨k, h1, rfl⟩, h2, h3⟩
  · obtain ⟨y, h1, h2, h3⟩ := h _ (lst_mem.2 ⟨i, hi, rfl⟩)
    obtain ⟨k, hk, rfl⟩ := lst_mem.1 h1
    exact ⟨k, hk, h2, h3⟩
theorem most_in {l : List Pt} {x : Pt} (h : x ∈ l) : x.2 ≤ mostL l := (mostL_le (mostL_ge l)).1 (Int.le_refl _) x h
theorem leqQ_refl (c : Int) (l : List Pt) : LeqQ c l c l := ⟨fun x hx => ⟨x, hx, rfl, Int.le_refl _⟩, by omega⟩
theorem leqQ_most {l l' : List Pt} (h : ∀ x, x ∈ l → ∃ y, y ∈ l' ∧ y.1 = x.1 ∧ x.2 ≤ y.2) : mostL l ≤ mostL l' := (mostL_le (mostL_ge l')).2 fun x hx => by
  obtain ⟨y, h1, _, h2⟩ := h x hx
  have := most_in h1
  omega
theorem LeqQ.trans {c c' c'' : Int} {l l' l'' : List Pt} (h : LeqQ c l c' l') (h' : LeqQ c' l' c'' l'') : LeqQ c l c'' l'' := by
  refine ⟨fun x hx => ?_, ?_⟩
  · obtain ⟨y, h1, h2, h3⟩ := h.1 x hx
    obtain ⟨z, h4, h5, h6⟩ := h'.1 y h1
    exact ⟨z, h4, h5.trans h2, by omega⟩
  · have := leqQ_most h'.1
    have := h.2
    have := h'.2
    omega
theorem mx_in : ∀ {l : List Pt} {v p : Int}, mx l v = some p → (v, p) ∈ l
  | [], v, p, h => by cases h
  | z :: l, v, p, h => by
    simp only [mx] at h
    by_cases e : z.1 = v
    · rw [if_pos e] at h
      cases e2 : mx l v with
      | none =>
        rw [e2] at h
        have h := Option.some.inj h
        exact List.mem_cons.2 (.inl (by rw [← e, ← h]))
      | some w =>
        rw [e2] at h
        have h := Option.some.inj h
        by_cases e3 : w ≤ z.2
        · exact List.mem_cons.2 (.inl (by rw [← e]; exact Prod.ext rfl (by dsimp only; omega)))
        · exact List.mem_cons_of_mem _ (mx_in (by rw [e2]; exact congrArg some (by omega)))
    · rw [if_neg e] at h
      exact List.mem_cons_of_mem _ (mx_in h)
/-- the number of a canonical form -/
def cq (c : Int) (q : List Pt) : Int := if c ≤ mostL q then 0 else c
theorem leq_max {c d : Int} {l q : List Pt} {g : Int → Option Int} (hq : ∀ v, mx q v = omax (mx l v) (g v)) (hd : c ≤ d) : LeqQ c l (cq d q) q := by
  refine ⟨fun x hx => ?_, by unfold cq; split <;> omega⟩
  obtain ⟨y, e, hy⟩ := mx_mem hx
  have := hq x.1
  rw [e] at this
  cases e2 : g x.1 with
  | none => rw [e2] at this; exact ⟨_, mx_in this, rfl, hy⟩
  | some w => rw [e2] at this; exact ⟨_, mx_in this, rfl, by dsimp only; omega⟩
theorem leq_lub {c c' c'' : Int} {l l' l'' q : List Pt} (hq : ∀ v, mx q v = omax (mx l v) (mx l' v)) (h0 : 0 ≤ c'') (h : LeqQ c l c'' l'') (h' : LeqQ c' l' c'' l'') : LeqQ (cq (max c c') q) q c'' l'' := by
  refine ⟨fun x hx => ?_, ?_⟩
  · obtain ⟨y, e, hy⟩ := mx_mem hx
    rw [hq] at e
    have : (mx l x.1 = some y) ∨ (mx l' x.1 = some y) := by
      obtain ⟨o1, e1⟩ : ∃ o, o = mx l x.1 := ⟨_, rfl⟩
      obtain ⟨o2, e2⟩ : ∃ o, o = mx l' x.1 := ⟨_, rfl⟩
      rw [← e1, ← e2] at e ⊢
      match o1, o2, e with
      | none, some b, e => exact .inr e
      | some a, none, e => exact .inl e
      | some a, some b, e =>
        have e := Option.some.inj e
        by_cases e3 : b ≤ a
        · exact .inl (congrArg some (by omega))
        · exact .inr (congrArg some (by omega))
    rcases this with e | e
    · obtain ⟨z, h1, h2, h3⟩ := h.1 _ (mx_in e)
      exact ⟨z, h1, h2, by dsimp only at h3; omega⟩
    · obtain ⟨z, h1, h2, h3⟩ := h'.1 _ (mx_in e)
      exact ⟨z, h1, h2, by dsimp only at h3; omega⟩
  · have := h.2
    have := h'.2
    unfold cq
    split <;> omega
theorem leq_suc {c : Int} {l q : List Pt} (hq : ∀ v, mx q v = (mx l v).map (· + 1)) : LeqQ c l (cq (c + 1) q) q := by
  refine ⟨fun x hx => ?_, by unfold cq; split <;> omega⟩
  obtain ⟨y, e, hy⟩ := mx_mem hx
  have := hq x.1
  rw [e] at this
  exact ⟨_, mx_in this, rfl, by dsimp only; omega⟩
theorem suc_not {c : Int} {l q : List Pt} (hc : 0 ≤ c) (hq : ∀ v, mx q v = (mx l v).map (· + 1)) : ¬ LeqQ (cq (c + 1) q) q c l := by
  intro h
  cases l with
  | nil =>
    have hn : q = [] := by
      cases q with
      | nil => rfl
      | cons x q =>
        obtain ⟨y, e, _⟩ := mx_mem (List.mem_cons_self (a := x) (l := q))
        rw [hq] at e
        cases e
    subst hn
    have h5 : cq (c + 1) [] = c + 1 := if_neg (show ¬ c + 1 ≤ mostL [] from by show ¬ c + 1 ≤ -1; omega)
    have h6 := h.2
    rw [h5] at h6
    have h7 : c + 1 ≤ max c (-1) := h6
    omega
  | cons x l =>
    obtain ⟨p, e, _⟩ := mx_mem (List.mem_cons_self (a := x) (l := l))
    have h1 := hq x.1
    rw [e] at h1
    obtain ⟨z, h2, h3, h4⟩ := h.1 _ (mx_in h1)
    obtain ⟨p', e', h5⟩ := mx_mem h2
    dsimp only at h3 h4
    rw [h3, e] at e'
    have := Option.some.inj e'
    omega
end Go.VM

/- Evaluation that stops behind each region with guards, too: for functions with many conditions in a row. -/
set_option linter.unusedSimpArgs false
set_option linter.unusedVariables false
set_option linter.unusedSectionVars false
namespace Go.VM
open Ops
theorem Later_eq (p : Unit → Prop) : Later p = p () := propext ⟨fun ⟨h⟩ => h, .mk⟩
def gdL : List Oper → Bool
  | [] => false
  | o :: r => match o.guard with
    | some _ => true
    | none => gdL r
section
variable [Ops] [Glb]
def lateK (b : Bool) (K : St → Prop) : St → Prop := fun σ => match b with
  | true => Later (fun _ => K σ)
  | false => K σ
theorem lateK_eq (b : Bool) (K : St → Prop) : lateK b K = K := by
  funext σ
  cases b
  · rfl
  · exact Later_eq _
def Wl (P : Unit → Program) (T : Unit → Tab) (n : Nat) (ord : List (Nat × List Nat)) (Q : Ex → St → Prop) : Nat → Code → List Fr → St → Prop
  | 0, _, _, _ => False
  | f + 1, c, K, σ => match c with
    | .skip => popK (Wl P T n ord Q f) Q K .normal σ
    | .region id ops draw => match draw with
      | false => wops P T ops.toList ops.toList σ (lateK (gdL ops.toList) (popK (Wl P T n ord Q f) Q K .normal))
      | true => match lookN ord id with
        | some l => wsched P T ops.toList l σ (lateK (gdL ops.toList) (popK (Wl P T n ord Q f) Q K .normal))
        | none => wdraw P T ops.toList (lenL ops.toList) (noneL ops.toList) σ (lateK (gdL ops.toList) (popK (Wl P T n ord Q f) Q K .normal))
    | .seq a b => Wl P T n ord Q f a (.seq b :: K) σ
    | .cond c a b => match ev σ.tm c with
      | .d (.bool t) => Later (fun _ => match t with
        | true => Wl P T n ord Q f a K σ
        | false => Wl P T n ord Q f b K σ)
      | _ => False
    | .block id b => Wl P T n ord Q f b (.block id :: K) σ
    | .loop b => LoopVW P n b (popK (Wl P T n ord Q f) Q K) σ
    | .exit id => popK (Wl P T n ord Q f) Q K (.exit id) σ
    | .ret => popK (Wl P T n ord Q f) Q K .ret σ
    | _ => False
theorem Wl_eq (P : Unit → Program) (T : Unit → Tab) (n : Nat) (ord : List (Nat × List Nat)) (Q : Ex → St → Prop) : ∀ f, Wl P T n ord Q f = Wo P T n ord Q f
  | 0 => by funext c K σ; simp only [Wl, Wo]
  | f + 1 => by
    funext c K σ
    simp only [Wl, Wo, Wl_eq P T n ord Q f, lateK_eq]
    all_goals (cases c <;> rfl)
end
variable {Pf : Unit → Program} [Glb]
theorem VCalls_of_Wl {Tf : ∀ [Ops], Unit → Tab} (hT : ∀ [Ops], TabOk (Pf ()) (Tf ())) (ord : List (Nat × List Nat)) (f : Nat) {K : FuncId} {fn : Func} (hf : (Pf ()).funcs[K]? = some fn) (hb : fn.body.isSome = true) (ho : ∀ [Ops], ordC (Tf ()) ord (bodyOf fn) = true) {args : List A} {H : AHeap} {R : A → AHeap → Prop} (hl : lenL args ≤ fn.ntmps)
    (h : ∀ [Ops] (n : Nat) (R' : A → AHeap → Prop), H.length = n → (∀ r H', R r H' → R' r H') → Wl Pf Tf n ord (retQ Tf fn.results.toList R') f (bodyOf fn) [] ⟨slots args fn.ntmps, H⟩) : VCalls (Pf ()) K args H R :=
  VCalls_of_Wo hT ord f hf hb ho hl fun {_} n R' hn hR => by rw [← Wl_eq]; exact h n R' hn hR
theorem vfunL {Tf : ∀ [Ops], Unit → Tab} (hT : ∀ [Ops], TabOk (Pf ()) (Tf ())) (ord : List (Nat × List Nat)) (f : Nat) {K : FuncId} {fn : Func} (hf : (Pf ()).funcs[K]? = some fn) (hb : fn.body.isSome = true) (ho : ∀ [Ops], ordC (Tf ()) ord (bodyOf fn) = true) {args : List A} (ha : pureL args = true) {S : A → Prop} (hl : lenL args ≤ fn.ntmps)
    (h : ∀ [Ops] (R : A → AHeap → Prop), (∀ r H y, Frz H r y → S y → R r H) → Wl Pf Tf 0 ord (retQ Tf fn.results.toList R) f (bodyOf fn) [] ⟨slots args fn.ntmps, []⟩) : VFun (Pf ()) K args S :=
  vfunO hT ord f hf hb ho ha hl fun {_} R hR => by rw [← Wl_eq]; exact h R hR
theorem loopL {n : Nat} {Tf : ∀ [Ops], Unit → Tab} (hT : ∀ [Ops], TabOk (Pf ()) (Tf ())) (ord : List (Nat × List Nat)) (f : Nat) {c : Code} {Q : Ex → St → Prop} {σ : St} {Y : Type} (S : Y → St) (m : Y → Nat) (ok : Y → Prop) (y0 : Y) (h0 : ok y0) (ho : ∀ [Ops], ordC (Tf ()) ord c = true) (hle : leS n (S y0) σ) (hb : ∀ y, belS (S y) = true)
    (round : ∀ [Ops] (y : Y) (Bk : St → Prop), ok y → (∀ y' s', m y' < m y → ok y' → leS n (S y') s' → Bk s') → Wl Pf Tf n ord (seqQ Bk Q) f c [] (S y)) : LoopVW Pf n c Q σ :=
  loopO hT ord f S m ok y0 h0 ho hle hb fun {_} y Bk h1 h2 => by rw [← Wl_eq]; exact round y Bk h1 h2
end Go.VM
