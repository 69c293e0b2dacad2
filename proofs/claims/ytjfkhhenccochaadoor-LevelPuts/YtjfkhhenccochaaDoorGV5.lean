/- Part of the proof: VZ, VF2, VF3, VF4, VO2, M1, M2, M3, M4, VBd. -/
import Derived.Below
import Derived.Deep.Slices
import Derived.Shelf.Strings.BuilderF
import Derived.Test.YtjfkhhenccochaaDoorGV4
import Derived.Test.YtjfkhhenccochaaDoorGV1
/- The order of a region's operations, given beforehand and checked by the kernel: evaluation looks at one order. -/
set_option linter.unusedSimpArgs false
set_option linter.unusedVariables false
set_option linter.unusedSectionVars false
namespace Go.VM
open Ops

def getO : List Oper → Nat → Option Oper
  | [], _ => none
  | o :: r, i => match i with
    | 0 => some o
    | i + 1 => getO r i
theorem getO_eq : ∀ (l : List Oper) (i : Nat), getO l i = l[i]?
  | [], i => by simp [getO]
  | o :: r, 0 => rfl
  | o :: r, i + 1 => by simp [getO, getO_eq r i]

/-- the textual order -/
def upF : Nat → Nat → List Nat
  | _, 0 => []
  | k, n + 1 => k :: upF (k + 1) n

def lookN : List (Nat × List Nat) → Nat → Option (List Nat)
  | [], _ => none
  | x :: r, id => match Nat.beq x.1 id with
    | true => some x.2
    | false => lookN r id

/-- no other operation is ready -/
def soleB (listed : List Bool) (i : Nat) : Nat → List Oper → Bool
  | _, [] => true
  | j, y :: r => (match Nat.beq j i with | true => true | false => !rdy listed j y) && soleB listed i (j + 1) r
def noneB (listed : List Bool) : Nat → List Oper → Bool
  | _, [] => true
  | j, y :: r => !rdy listed j y && noneB listed (j + 1) r

def schedOk (T : Tab) (all : List Oper) : List Nat → List Bool → Bool
  | [], listed => noneB listed 0 all
  | i :: r, listed => match getO all i with
    | none => false
    | some o => (quiet2 T all listed i o || (rdy listed i o && soleB listed i 0 all)) && schedOk T all r (setL listed i true)

theorem soleB_spec {listed : List Bool} {i : Nat} : ∀ {l : List Oper} {k : Nat}, soleB listed i k l = true → ∀ j y, l[j]? = some y → k + j ≠ i → rdy listed (k + j) y = false
  | [], _, _, j, y, h, _ => by simp at h
  | z :: r, k, hf, j, y, h, hne => by
    simp only [soleB, Bool.and_eq_true] at hf
    cases j with
    | zero =>
      simp at h; subst h
      have hb : Nat.beq k i = false := by
        cases hb : Nat.beq k i with
        | false => rfl
        | true => exact absurd (Nat.eq_of_beq_eq_true hb) hne
      have := hf.1
      rw [hb] at this
      simpa using this
    | succ j =>
      rw [show k + (j + 1) = k + 1 + j by omega] at hne ⊢
      exact soleB_spec hf.2 j y (by simpa using h) hne
theorem noneB_spec {listed : List Bool} : ∀ {l : List Oper} {k : Nat}, noneB listed k l = true → ∀ j y, l[j]? = some y → rdy listed (k + j) y = false
  | [], _, _, j, y, h => by simp at h
  | z :: r, k, hf, j, y, h => by
    simp only [noneB, Bool.and_eq_true] at hf
    cases j with
    | zero => simp at h; subst h; simpa using hf.1
    | succ j =>
      rw [show k + (j + 1) = k + 1 + j by omega]
      exact noneB_spec hf.2 j y (by simpa using h)

section
variable [Ops] [Glb] [Lim]

def wsched (P : Unit → Program) (T : Unit → Tab) (all : List Oper) : List Nat → St → (St → Prop) → Prop
  | [], σ, K => K σ
  | i :: r, σ, K => match getO all i with
    | some o => wopG P T all o σ.tm σ.hp (fun v hp => wsched P T all r ⟨put σ.tm o.dst v, hp⟩ K)
    | none => False

theorem wany_of_sched {P : Unit → Program} {T : Unit → Tab} {all : List Oper} (he : ∀ t e xs ys Q Q', (T ()).eq t = some e → (∀ a, Q a → Q' a) → e xs ys Q → e xs ys Q') {K : St → Prop} : ∀ (l : List Nat) (listed : List Bool) (σ : St), schedOk (T ()) all l listed = true → wsched P T all l σ K → wany P T all l.length listed σ K
  | [], listed, σ, ho, h => ⟨fun i o hi => by simpa using noneB_spec ho i o hi, h⟩
  | i :: r, listed, σ, ho, h => by
    unfold schedOk at ho
    unfold wsched at h
    cases hg : getO all i with
    | none => rw [hg] at h; exact h.elim
    | some o =>
      rw [hg] at ho h
      simp only [Bool.and_eq_true, Bool.or_eq_true] at ho
      obtain ⟨ho, hr⟩ := ho
      have h1 : all[i]? = some o := by rw [← getO_eq]; exact hg
      rcases ho with h2 | ⟨h2, h3⟩
      · unfold quiet2 at h2
        split at h2
        · cases h2
        · rename_i hrd
          split at h2
          · cases h2
          · rename_i hc
            split at h2
            · cases h2
            · rename_i hdf
              have hc : cls (T ()) o.op ≠ 0 := fun e => by rw [e] at hc; cases hc
              obtain ⟨v, k1, k2, k3⟩ := one_wopG hc h
              refine wany_first2 (dep := depsL i [] all) he h1 r.length listed σ.tm σ.hp ?_ (depFree_spec hdf) ?_ hrd ⟨k2, k3⟩ (wany_of_sched he r _ _ hr k1)
              · intro j y hj hd
                exact depsL_spec i all [] j y hj (by simpa using hd)
              · intro j y hj hne hun hon
                exact freeD_spec h2 j y hj (by simpa using hne) (by simpa using hun) (by simpa using hon)
      · refine ⟨fun hno => ?_, fun j y hj hrj => ?_⟩
        · rw [hno i o h1] at h2; cases h2
        · by_cases hji : j = i
          · subst hji
            rw [h1] at hj; cases hj
            exact wopG_mono he (fun v hp hk => wany_of_sched he r _ _ hr hk) h
          · have := soleB_spec h3 j y hj (by simpa using hji)
            rw [Nat.zero_add, hrj] at this
            cases this

/-- the schedules of a code's regions are fine -/
def ordC (T : Tab) (ord : List (Nat × List Nat)) : Code → Bool
  | .region id ops draw => match draw with
    | false => true
    | true => match lookN ord id with
      | some l => Nat.beq l.length ops.toList.length && schedOk T ops.toList l (noneL ops.toList)
      | none => true
  | .seq a b => ordC T ord a && ordC T ord b
  | .cond _ a b => ordC T ord a && ordC T ord b
  | .block _ b => ordC T ord b
  | .loop b => ordC T ord b
  | _ => true

def Wo (P : Unit → Program) (T : Unit → Tab) (n : Nat) (ord : List (Nat × List Nat)) (Q : Ex → St → Prop) : Nat → Code → List Fr → St → Prop
  | 0, _, _, _ => False
  | f + 1, c, K, σ => match c with
    | .skip => popK (Wo P T n ord Q f) Q K .normal σ
    | .region id ops draw => match draw with
      | false => wops P T ops.toList ops.toList σ (popK (Wo P T n ord Q f) Q K .normal)
      | true => match lookN ord id with
        | some l => wsched P T ops.toList l σ (popK (Wo P T n ord Q f) Q K .normal)
        | none => wdraw P T ops.toList (lenL ops.toList) (noneL ops.toList) σ (popK (Wo P T n ord Q f) Q K .normal)
    | .seq a b => Wo P T n ord Q f a (.seq b :: K) σ
    | .cond c a b => match ev σ.tm c with
      | .d (.bool t) => Later (fun _ => match t with
        | true => Wo P T n ord Q f a K σ
        | false => Wo P T n ord Q f b K σ)
      | _ => False
    | .block id b => Wo P T n ord Q f b (.block id :: K) σ
    | .loop b => LoopVW P n b (popK (Wo P T n ord Q f) Q K) σ
    | .exit id => popK (Wo P T n ord Q f) Q K (.exit id) σ
    | .ret => popK (Wo P T n ord Q f) Q K .ret σ
    | _ => False

variable {P : Program} {T : Tab} {Pf : Unit → Program} {Tf : Unit → Tab} {n : Nat} {ord : List (Nat × List Nat)}

omit [Ops] [Glb] in
theorem popK_ok2 {Q : Ex → St → Prop} {run : Code → List Fr → St → Prop} [Ops] [Glb] (hok : Code → Prop) (h : ∀ c K σ, hok c → (∀ b, Fr.seq b ∈ K → hok b) → run c K σ → VW P n c (kQ P n Q K) σ) : ∀ (K : List Fr) (e : Ex) (σ : St), (∀ b, Fr.seq b ∈ K → hok b) → popK run Q K e σ → kQ P n Q K e σ
  | [], e, σ, _, hp => hp
  | .seq b :: K, e, σ, hK, hp => by
    have hK' : ∀ b, Fr.seq b ∈ K → hok b := fun b hb => hK b (by simp [hb])
    cases e with
    | normal => exact h b K σ (hK b (by simp)) hK' hp
    | exit i => exact popK_ok2 hok h K _ σ hK' hp
    | ret => exact popK_ok2 hok h K _ σ hK' hp
  | .block id :: K, e, σ, hK, hp => by
    have hK' : ∀ b, Fr.seq b ∈ K → hok b := fun b hb => hK b (by simp [hb])
    cases e with
    | normal => exact popK_ok2 hok h K .normal σ hK' hp
    | exit i =>
      simp only [popK] at hp
      show (match Nat.beq i id with | true => kQ P n Q K .normal σ | false => kQ P n Q K (.exit i) σ)
      cases hb : Nat.beq i id with
      | true => rw [hb] at hp; exact popK_ok2 hok h K .normal σ hK' hp
      | false => rw [hb] at hp; exact popK_ok2 hok h K (.exit i) σ hK' hp
    | ret => exact popK_ok2 hok h K .ret σ hK' hp

theorem Wo_ok (hT : TabOk (Pf ()) (Tf ())) (Q : Ex → St → Prop) : ∀ (f : Nat) (c : Code) (K : List Fr) (σ : St), ordC (Tf ()) ord c = true → (∀ b, Fr.seq b ∈ K → ordC (Tf ()) ord b = true) → Wo Pf Tf n ord Q f c K σ → VW (Pf ()) n c (kQ (Pf ()) n Q K) σ
  | 0, c, K, σ, _, _, h => h.elim
  | f + 1, c, K, σ, hc, hK, h => by
    have ih := Wo_ok hT Q f
    have pop := fun e s => popK_ok2 (hok := fun b => ordC (Tf ()) ord b = true) ih K e s hK
    cases c with
    | skip => exact VW_skip (pop _ _ h)
    | region id ops draw =>
      cases draw with
      | false =>
        have h2 : W Pf Tf n (.region id ops false) (popK (Wo Pf Tf n ord Q f) Q K) σ := h
        exact (W_ok hT _ _ _ h2).mono fun e s => pop e s
      | true =>
        simp only [Wo] at h
        simp only [ordC] at hc
        cases hl : lookN ord id with
        | none =>
          rw [hl] at h
          have h2 : W Pf Tf n (.region id ops true) (popK (Wo Pf Tf n ord Q f) Q K) σ := h
          exact (W_ok hT _ _ _ h2).mono fun e s => pop e s
        | some l =>
          rw [hl] at h hc
          simp only [Bool.and_eq_true, Nat.beq_eq] at hc
          have h1 := wany_of_sched hT.mono l (noneL ops.toList) σ hc.2 h
          rw [hc.1] at h1
          intro E ι I a w hn hi
          refine wp_region_any hT.mixed ?_
          have := wany_ok hT (E := E) (ops := ops) (Q := Post E (kQ (Pf ()) n Q K)) (K := popK (Wo Pf Tf n ord Q f) Q K .normal) (fun ι I a w σ h1 h2 => ⟨.normal, σ, ι, I, .normal, pop _ _ h1, h2⟩) _ _ (hi.drawn (w.drawn + 1)) h1
          rw [noneL_eq] at this
          simpa using this
    | seq a b =>
      simp only [ordC, Bool.and_eq_true] at hc
      exact VW_seq (ih a _ σ hc.1 (fun x hx => by
        rcases List.mem_cons.1 hx with e | hx
        · cases e; exact hc.2
        · exact hK x hx) h)
    | cond c a b =>
      simp only [ordC, Bool.and_eq_true] at hc
      simp only [Wo] at h
      split at h
      · rename_i t ht
        obtain ⟨h⟩ := h
        cases t with
        | true => exact VW_cond ht (fun e => ih a _ σ hc.1 hK h) (fun e => by cases e)
        | false => exact VW_cond ht (fun e => by cases e) (fun e => ih b _ σ hc.2 hK h)
      · exact h.elim
    | block id b => exact VW_block (ih b _ σ hc (fun x hx => by
        rcases List.mem_cons.1 hx with e | hx
        · cases e
        · exact hK x hx) h)
    | loop b =>
      have h : LoopVW Pf n b (popK (Wo Pf Tf n ord Q f) Q K) σ := h
      rw [LoopVW_eq] at h
      exact (h inferInstance).mono fun e s => pop e s
    | exit id => exact VW_exit (pop _ _ h)
    | ret => exact VW_ret (pop _ _ h)
    | rangeFunc => exact h.elim
    | scope => exact h.elim
    | label => exact h.elim
    | goto => exact h.elim
    | refuse => exact h.elim

omit [Ops] [Lim] in
theorem VCalls_of_Wo {Tf : ∀ [Ops], Unit → Tab} (hT : ∀ [Ops], TabOk (Pf ()) (Tf ())) (ord : List (Nat × List Nat)) (f : Nat) {K : FuncId} {fn : Func} (hf : (Pf ()).funcs[K]? = some fn) (hb : fn.body.isSome = true) (ho : ∀ [Ops], ordC (Tf ()) ord (bodyOf fn) = true) {args : List A} {H : AHeap} {R : A → AHeap → Prop} (hl : lenL args ≤ fn.ntmps)
    (h : ∀ [Ops] (n : Nat) (R' : A → AHeap → Prop), H.length = n → (∀ r H', R r H' → R' r H') → Wo Pf Tf n ord (retQ Tf fn.results.toList R') f (bodyOf fn) [] ⟨slots args fn.ntmps, H⟩) : VCalls (Pf ()) K args H R :=
  Ops.exists_one.elim fun inst => VCalls_of_VW (Tf := Tf) hT hf hb hl fun {_} => Wo_ok hT _ f _ [] _ ho (fun b hb => absurd hb (by simp)) (h _ R rfl fun _ _ h => h)

omit [Ops] [Lim] in
theorem vfunO {Pf : Unit → Program} {Tf : ∀ [Ops], Unit → Tab} (hT : ∀ [Ops], TabOk (Pf ()) (Tf ())) (ord : List (Nat × List Nat)) (f : Nat) {K : FuncId} {fn : Func} (hf : (Pf ()).funcs[K]? = some fn) (hb : fn.body.isSome = true) (ho : ∀ [Ops], ordC (Tf ()) ord (bodyOf fn) = true) {args : List A} (ha : pureL args = true) {S : A → Prop} (hl : lenL args ≤ fn.ntmps)
    (h : ∀ [Ops] (R : A → AHeap → Prop), (∀ r H y, Frz H r y → S y → R r H) → Wo Pf Tf 0 ord (retQ Tf fn.results.toList R) f (bodyOf fn) [] ⟨slots args fn.ntmps, []⟩) : VFun (Pf ()) K args S :=
  fun H => VCalls.pure ha (VCalls_of_Wo (R := fun r H => ∃ y, Frz H r y ∧ S y) hT ord f hf hb ho hl fun {_} n R hn hR => by
    cases hn
    exact h R fun r H y h1 h2 => hR r H ⟨y, h1, h2⟩) (fun r H h => h) H

omit [Ops] [Lim] in
theorem loopO {Tf : ∀ [Ops], Unit → Tab} (hT : ∀ [Ops], TabOk (Pf ()) (Tf ())) (ord : List (Nat × List Nat)) (f : Nat) {c : Code} {Q : Ex → St → Prop} {σ : St} {Y : Type} (S : Y → St) (m : Y → Nat) (ok : Y → Prop) (y0 : Y) (h0 : ok y0) (ho : ∀ [Ops], ordC (Tf ()) ord c = true) (hle : leS n (S y0) σ) (hb : ∀ y, belS (S y) = true)
    (round : ∀ [Ops] (y : Y) (Bk : St → Prop), ok y → (∀ y' s', m y' < m y → ok y' → leS n (S y') s' → Bk s') → Wo Pf Tf n ord (seqQ Bk Q) f c [] (S y)) : LoopVW Pf n c Q σ := by
  refine Ops.exists_one.elim fun inst => ⟨fun lim => ?_⟩
  refine VW_loop (fun k s => ∃ y, ok y ∧ m y = k ∧ s = S y) (m y0) ⟨S y0, hle, belS_ok (hb y0), y0, h0, rfl, rfl⟩ ?_
  rintro k s ⟨y, hy, rfl, rfl⟩
  refine Wo_ok (Tf := Tf) hT _ f _ [] _ ho (fun b hb => absurd hb (by simp)) (round y _ hy ?_)
  intro y' s' hm hy' hle'
  exact ⟨m y', S y', hm, hle', belS_ok (hb y'), y', hy', rfl, rfl⟩
end
/-- the table, with the slots of variables that nobody writes -/
def fzT (l : List Nat) (T : Tab) : Tab := { T with fz := fun d => hasN l d }
theorem TabOk.frz [Ops] [Glb] {P : Program} {T : Tab} (h : TabOk P T) (l : List Nat) : TabOk P (fzT l T) := ⟨h.ti, h.eq, h.fn, h.mixed, h.bld, h.mono⟩
end Go.VM

/- A contract over a few objects, used over any heap: the objects stand at the places es, new ones come behind all others. -/
set_option linter.unusedSimpArgs false
set_option linter.unusedVariables false
set_option linter.unusedSectionVars false
namespace Go.VM

def ix : List Nat → Nat → Nat → Nat
  | [], m, i => m + i
  | x :: r, m, i => match i with
    | 0 => x
    | i + 1 => ix r m i
def renH (e : Nat → Nat) : AHeap → AHeap
  | [] => []
  | x :: r => renO e x :: renH e r
def appL {α : Type} : List α → List α → List α
  | [], l => l
  | x :: r, l => x :: appL r l
def putO (e : Nat → Nat) : AHeap → List Nat → AHeap → AHeap
  | H, [], r => appL H (renH e r)
  | H, _ :: _, [] => H
  | H, x :: es, y :: r => putO e (setL H x (renO e y)) es r
def objsAt (H : AHeap) (e : Nat → Nat) : List Nat → AHeap → Prop
  | [], [] => True
  | x :: es, y :: r => H[x]? = some (renO e y) ∧ objsAt H e es r
  | _, _ => False
def noN (x : Nat) : List Nat → Bool
  | [] => true
  | y :: r => !Nat.beq x y && noN x r
def nodN : List Nat → Bool
  | [] => true
  | x :: r => noN x r && nodN r
def fzH : AHeap → Prop
  | [] => True
  | x :: r => (match x with | .arr m _ _ fz => fz ≤ m | _ => True) ∧ fzH r

theorem appL_eq {α : Type} : ∀ l r : List α, appL l r = l ++ r
  | [], r => rfl
  | x :: l, r => by simp [appL, appL_eq l r]
theorem renH_eq (e : Nat → Nat) : ∀ l, renH e l = l.map (renO e)
  | [] => rfl
  | x :: r => by simp [renH, renH_eq e r]
theorem ix_lt : ∀ {es : List Nat} {m i : Nat} (h : i < es.length), ix es m i = es[i]
  | x :: r, m, 0, h => rfl
  | x :: r, m, i + 1, h => by simpa [ix] using ix_lt (es := r) (m := m) (i := i) (by simpa using h)
theorem ix_ge : ∀ {es : List Nat} {m i : Nat} (h : es.length ≤ i), ix es m i = m + (i - es.length)
  | [], m, i, h => rfl
  | x :: r, m, 0, h => by simp at h
  | x :: r, m, i + 1, h => by
    have := ix_ge (es := r) (m := m) (i := i) (by simpa using h)
    simp only [ix, this, List.length_cons]; omega
theorem noN_spec {x : Nat} : ∀ {r : List Nat}, noN x r = true → ∀ (i : Nat) (h : i < r.length), r[i] ≠ x
  | y :: r, hn, i, h => by
    simp only [noN, Bool.and_eq_true, Bool.not_eq_true'] at hn
    cases i with
    | zero =>
      intro e
      have : Nat.beq x y = true := by rw [← e]; simp
      rw [this] at hn; exact absurd hn.1 (by simp)
    | succ i => simpa using noN_spec hn.2 i (by simpa using h)
theorem nodN_spec : ∀ {es : List Nat}, nodN es = true → ∀ (i j : Nat) (hi : i < es.length) (hj : j < es.length), es[i] = es[j] → i = j
  | x :: r, hn, i, j, hi, hj, e => by
    simp only [nodN, Bool.and_eq_true] at hn
    match i, j with
    | 0, 0 => rfl
    | 0, j + 1 => exact absurd e.symm (noN_spec hn.1 j (by simpa using hj))
    | i + 1, 0 => exact absurd e (noN_spec hn.1 i (by simpa using hi))
    | i + 1, j + 1 =>
      have := nodN_spec hn.2 i j (by simpa using hi) (by simpa using hj) (by simpa using e)
      omega
theorem objsAt_spec {H : AHeap} {e : Nat → Nat} : ∀ {es : List Nat} {H1 : AHeap}, objsAt H e es H1 → es.length = H1.length ∧ ∀ (i : Nat) (hi : i < es.length) (hj : i < H1.length), H[es[i]]? = some (renO e H1[i])
  | [], [], _ => ⟨rfl, fun i hi => absurd hi (by simp)⟩
  | x :: es, y :: r, h => by
    obtain ⟨h1, h2⟩ := h
    obtain ⟨h3, h4⟩ := objsAt_spec h2
    refine ⟨by simp [h3], fun i hi hj => ?_⟩
    cases i with
    | zero => exact h1
    | succ i => simpa using h4 i (by simpa using hi) (by simpa using hj)
  | [], _ :: _, h => h.elim
  | _ :: _, [], h => h.elim
section
variable [Glb]
theorem putO_spec (e : Nat → Nat) : ∀ (es : List Nat) (H H2 : AHeap), es.length ≤ H2.length → (∀ x, x ∈ es → x < H.length) → nodN es = true →
    (putO e H es H2).length = H.length + (H2.length - es.length) ∧ (∀ (i : Nat) (h : i < es.length) (h' : i < H2.length), (putO e H es H2)[es[i]]? = some (renO e H2[i])) ∧
    (∀ (i : Nat) (h' : i < H2.length), es.length ≤ i → (putO e H es H2)[H.length + (i - es.length)]? = some (renO e H2[i])) ∧ (∀ o, o < H.length → o ∉ es → (putO e H es H2)[o]? = H[o]?)
  | [], H, H2, _, _, _ => by
    simp only [putO, appL_eq, renH_eq]
    refine ⟨by simp, fun i h => absurd h (by simp), fun i h' _ => ?_, fun o ho _ => ?_⟩
    · rw [List.getElem?_append_right (by simp)]
      simp [h']
    · rw [List.getElem?_append_left ho]
  | x :: es, H, y :: r, hl, hx, hn => by
    simp only [nodN, Bool.and_eq_true] at hn
    simp only [putO]
    have hset : setL H x (renO e y) = H.set x (renO e y) := by
      refine Ops.exists_one.elim fun inst => ?_
      let lim : Lim := ⟨fun _ _ => True⟩
      exact setL_eq _ _ _
    rw [hset]
    obtain ⟨p1, p2, p3, p4⟩ := putO_spec e es (H.set x (renO e y)) r (by simpa using hl) (fun z hz => by simpa using hx z (by simp [hz])) hn.2
    have hnot : x ∉ es := fun hm => by
      obtain ⟨i, hi, e'⟩ := List.getElem_of_mem hm
      exact noN_spec hn.1 i hi e'
    simp only [List.length_set] at p1 p3 p4
    refine ⟨by rw [p1]; simp, fun i h h' => ?_, fun i h' h => ?_, fun o ho hno => ?_⟩
    · cases i with
      | zero =>
        simp only [List.getElem_cons_zero]
        rw [p4 x (hx x (by simp)) hnot]
        simp [hx x (by simp)]
      | succ i => simpa using p2 i (by simpa using h) (by simpa using h')
    · cases i with
      | zero => simp at h
      | succ i =>
        have := p3 i (by simpa using h') (by simpa using h)
        simpa [Nat.succ_sub_succ] using this
    · have hne : x ≠ o := fun e' => hno (by simp [e'])
      rw [p4 o ho (fun hm => hno (by simp [hm])), List.getElem?_set_ne hne]
  | _ :: _, _, [], hl, _, _ => by simp at hl

theorem leLs_refl : ∀ xs : List A, leLs xs xs
  | [] => trivial
  | x :: r => ⟨by cases x <;> first | exact trivial | exact rfl | exact Deq.refl _, leLs_refl r⟩
theorem leO_refl [Ops] [Lim] : ∀ {x : AObj}, (match x with | .arr m _ _ fz => fz ≤ m | _ => True) → leO x x
  | .dead, _ => trivial
  | .box cs, _ => ⟨cs, rfl, leLs_refl cs⟩
  | .arr m sz g fz, h => ⟨g, fz, rfl, Nat.le_refl _, h, fun _ _ _ _ => .refl _⟩
  | .iter _ _, _ => rfl
  | .bld _, _ => rfl
theorem leH_pre [Ops] [Lim] : ∀ {H2 : AHeap} (G : AHeap), fzH H2 → leH H2 (H2 ++ G)
  | [], _, _ => trivial
  | x :: r, G, h => ⟨leO_refl h.1, leH_pre G h.2⟩

/-- THE USE OF A CONTRACT over a few objects. -/
theorem VCalls.within {P : Program} {K : FuncId} {args1 : List A} {H1 : AHeap} {R1 : A → AHeap → Prop} (h : VCalls P K args1 H1 R1) {H : AHeap} (es : List Nat) {R : A → AHeap → Prop}
    (hn : nodN es = true) (ho : objsAt H (ix es H.length) es H1) (hb : belH H1.length H1 = true) (ha : belA.belAs H1.length args1 = true)
    (hr : ∀ r1 H1', R1 r1 H1' → ∃ H2 G, H1' = H2 ++ G ∧ H1.length ≤ H2.length ∧ fzH H2 ∧ belA H2.length r1 = true ∧ belH H2.length H2 = true ∧ R (ren (ix es H.length) r1) (putO (ix es H.length) H es H2)) :
    VCalls P K (ren.renL (ix es H.length) args1) H R := by
  obtain ⟨o1, o2⟩ := objsAt_spec ho
  have lt1 : ∀ i (hi : i < es.length), es[i] < H.length := fun i hi => (List.getElem?_eq_some_iff.1 (o2 i hi (by omega))).1
  refine h.frame H (ix es H.length) (fun i j hi hj e => ?_) (fun i x hx => ?_) (fun i x hx => belH_ok hb i x hx) (fun k hk => belAs_ok ha k hk) fun r1 H1' hR => ?_
  · rw [ix_lt (by omega), ix_lt (by omega)] at e
    exact nodN_spec hn i j (by omega) (by omega) e
  · have hi := (List.getElem?_eq_some_iff.1 hx).1
    rw [ix_lt (by omega), o2 i (by omega) hi]
    rw [List.getElem?_eq_getElem hi] at hx
    rw [Option.some.inj hx]
  · obtain ⟨H2, G, rfl, h2, h3, h4, h5, h6⟩ := hr r1 H1' hR
    refine Ops.exists_one.elim fun inst => ?_
    let lim : Lim := ⟨fun _ _ => True⟩
    obtain ⟨p1, p2, p3, p4⟩ := putO_spec (ix es H.length) es H H2 (by omega) (fun x hx => by
      obtain ⟨i, hi, rfl⟩ := List.getElem_of_mem hx
      exact lt1 i hi) hn
    refine ⟨_, H2, _, .keep _ (belA_ok h4), h2, fun i h7 h8 => ?_, leH_pre G h3, fun i x hx => belH_ok h5 i x hx, by rw [p1]; omega, fun i x hx => ?_, fun o ho' hno => ?_, h6⟩
    · rw [ix_ge (by omega)]; omega
    · have hi := (List.getElem?_eq_some_iff.1 hx).1
      rw [List.getElem?_eq_getElem hi] at hx
      rw [← Option.some.inj hx]
      by_cases hc : i < es.length
      · rw [ix_lt hc]; exact p2 i hc hi
      · rw [ix_ge (by omega)]; exact p3 i hi (by omega)
    · refine p4 o ho' fun hm => ?_
      obtain ⟨i, hi, e⟩ := List.getElem_of_mem hm
      exact hno i (by omega) (by rw [ix_lt hi]; exact e)
end

theorem Frz.agg2 [Glb] {H : AHeap} {a b a' b' : A} (h1 : Frz H a a') (h2 : Frz H b b') : Frz H (.agg [a, b]) (.agg [a', b']) := .agg _ _ rfl (frzs_cons h1 (frzs_cons h2 (frzs_nil H)))
/-- WHAT A CONTRACT LEAVES, forgotten in part -/
theorem VCalls.less [Glb] {P : Program} {K : FuncId} {args : List A} {H : AHeap} {R R' : A → AHeap → Prop} (h : VCalls P K args H R)
    (hr : ∀ r H', R r H' → ∃ H2, (∀ [Ops] [Lim], leH H2 H') ∧ H.length ≤ H2.length ∧ belA H2.length r = true ∧ belH H2.length H2 = true ∧ R' r H2) : VCalls P K args H R' :=
  fun lim B ι I w vs hrel hargs => (h lim B ι I w vs hrel hargs).mono fun e w' ⟨v, r, H', ι', I', h1, h2, h3, h4, h5⟩ => by
    refine Ops.exists_one.elim fun inst => ?_
    obtain ⟨H2, g1, g2, g3, g4, g5⟩ := hr r H' h2
    exact ⟨v, r, H2, ι', I', h1, g5, Rel.less h3 g1 (fun o x hx => belH_ok g4 o x hx), h4.less g1 (belA_ok g3), ⟨h5.below, h5.same, h5.imm, g2, fun v x hx => (h5.rep v x hx).less g1 (hx.bel.mono g2)⟩⟩

/-- the same, as a call -/
theorem CallW.within [Glb] {P : Unit → Program} {K : FuncId} {args1 : List A} {H1 : AHeap} {R1 : A → AHeap → Prop} (h : VCalls (P ()) K args1 H1 R1) (es : List Nat) {H : AHeap} {args : List A} {R : A → AHeap → Prop} (hargs : args = ren.renL (ix es H.length) args1)
    (ho : objsAt H (ix es H.length) es H1) (hc : (nodN es && belH H1.length H1 && belA.belAs H1.length args1) = true)
    (hr : ∀ r1 H1', R1 r1 H1' → ∃ H2 G, H1' = H2 ++ G ∧ H1.length ≤ H2.length ∧ fzH H2 ∧ (belA H2.length r1 && belH H2.length H2) = true ∧ R (ren (ix es H.length) r1) (putO (ix es H.length) H es H2)) :
    CallW P K args H R := by
  simp only [Bool.and_eq_true] at hc
  subst hargs
  refine ⟨h.within es hc.1.1 ho hc.1.2 hc.2 fun r1 H1' h1 => ?_⟩
  obtain ⟨H2, G, e, h2, h3, h4, h5⟩ := hr r1 H1' h1
  simp only [Bool.and_eq_true] at h4
  exact ⟨H2, G, e, h2, h3, h4.1, h4.2, h5⟩
end Go.VM

/- A contract of the kit's over scalars, whose world grows: as a contract of the logic. -/
set_option linter.unusedSimpArgs false
set_option linter.unusedVariables false
set_option linter.unusedSectionVars false
namespace Go.VM
open Go

def valD : D → Value
  | .int k n => .int k n
  | .bool b => .bool b
  | .str s => .string s
  | _ => .bool false
def scal : D → Bool
  | .int _ _ => true
  | .bool _ => true
  | .str _ => true
  | _ => false
variable [Glb]
theorem scal_rep {w : World} {I : Nat → Nat → Prop} {d : D} (h : scal d = true) : RepD w I (valD d) d := by
  cases d <;> first | exact .int _ _ | exact .bool _ | exact .str _ | (cases h)
theorem scal_val {w : World} {I : Nat → Nat → Prop} {v : Value} {d : D} (h : scal d = true) (hr : RepD w I v d) : v = valD d := by
  cases d <;> first | (cases hr; rfl) | (cases h)
theorem scals_val {w : World} {I : Nat → Nat → Prop} {ι : Nat → Option Nat} {H : AHeap} : ∀ {ds : List D} {vs : List Value}, ds.all scal = true → RepL w I ι H vs (ds.map .d) → vs = ds.map valD
  | [], [], _, _ => rfl
  | [], v :: vs, _, h => by have := h.1; simp at this
  | d :: ds, [], _, h => by have := h.1; simp at this
  | d :: ds, v :: vs, hs, h => by
    simp only [List.all_cons, Bool.and_eq_true] at hs
    have h0 := h.2 0 (by simp)
    simp only [List.map_cons, List.getD_cons_zero] at h0
    cases h0 with | d _ _ h0 =>
    rw [List.map_cons, scal_val hs.1 h0, scals_val (ds := ds) (vs := vs) hs.2 ⟨by have := h.1; simpa using this, fun k hk => by
      have := h.2 (k + 1) (by simpa using hk)
      simpa using this⟩]
theorem vfun_kit0 {Q : Program} {K : FuncId} {ds : List D} {v : Value} {r : A} (hs : ds.all scal = true) (hr : ∀ w I ι H, RepA w I ι H v r)
    (h : ∀ w : World, (∀ b k v, Glb.G b k v → w.cell? ⟨b, k, none⟩ = v) → Calls Q K (ds.map valD).toArray w fun e w' => e = .returned v ∧ Go.RowKit.Below w.heap.size w w') :
    VFun Q K (ds.map .d) (fun x => x = r) := by
  intro H lim B ι I w vs hrel hargs
  obtain rfl := scals_val hs hargs
  refine (h w fun b k v hg => (hrel.glob b k v hg).2).mono ?_
  rintro e w' ⟨rfl, hb⟩
  obtain ⟨g1, g2⟩ := hrel.grow (w' := w') (J := I) ⟨hb.os, hb.tape, hb.output, hb.size, fun k hk _ => hb.block k hk⟩ (fun _ _ h => h) (fun _ _ _ h => h) (fun b k h => Nat.lt_of_lt_of_le (hrel.imm b k h) hb.size)
  exact ⟨v, r, H, ι, I, rfl, ⟨rfl, rfl⟩, g1, hr _ _ _ _, g2⟩
theorem vfun_kit {Q : Program} {K : FuncId} {ds : List D} {d : D} (hs : ds.all scal = true) (hd : scal d = true)
    (h : ∀ w : World, (∀ b k v, Glb.G b k v → w.cell? ⟨b, k, none⟩ = v) → Calls Q K (ds.map valD).toArray w fun e w' => e = .returned (valD d) ∧ Go.RowKit.Below w.heap.size w w') :
    VFun Q K (ds.map .d) (fun x => x = .d d) := vfun_kit0 hs (fun _ _ _ _ => .d _ _ (scal_rep hd)) h
theorem vfun_kitT {Q : Program} {K : FuncId} {ds rs : List D} (hs : ds.all scal = true) (hd : rs.all scal = true)
    (h : ∀ w : World, (∀ b k v, Glb.G b k v → w.cell? ⟨b, k, none⟩ = v) → Calls Q K (ds.map valD).toArray w fun e w' => e = .returned (.tuple (rs.map valD).toArray) ∧ Go.RowKit.Below w.heap.size w w') :
    VFun Q K (ds.map .d) (fun x => x = .tup (rs.map .d)) := vfun_kit0 hs (fun w I ι H => .tup _ _ (by simp) fun k hk => by
      have hk' : k < rs.length := by simpa using hk
      have : scal rs[k] = true := by
        simp only [List.all_eq_true] at hd
        exact hd _ (List.getElem_mem hk')
      simp only [List.getD_eq_getElem?_getD, List.getElem?_map, List.getElem?_eq_getElem hk', Option.map_some, Option.getD_some]
      exact .d _ _ (scal_rep this)) h
end Go.VM

/- Own slices handed to a function of data: they are frozen first. -/
set_option linter.unusedSimpArgs false
set_option linter.unusedVariables false
set_option linter.unusedSectionVars false
namespace Go.VM
theorem leL_nils (n sz : Nat) (g : Nat → Nat → D) : leL (.d (.sl n sz g)) .nils = (n = 0) := rfl
theorem leA_nils (n sz : Nat) (g : Nat → Nat → D) : leA (.d (.sl n sz g)) .nils = (n = 0) := rfl
/-- many goals that are one -/
theorem both {G M : Prop} (h : G → M) (g : G) : M := h g
theorem bsz (l : List UInt8) : (ByteArray.mk (Array.mk l)).size = l.length := rfl
theorem app_row {g : Nat → Nat → D} {n sz : Nat} {cs : List D} (h : ∀ j, j < sz → cs.getD j .nilp = g n j) (i j : Nat) (hi : i < n + 1) (hj : j < sz) : appF n g (rowF sz cs) i j = g i j := by
  unfold appF rowF
  by_cases e : i < n
  · rw [if_pos e]
  · obtain rfl : i = n := by omega
    rw [if_neg e, Nat.sub_self, Nat.zero_mul, Nat.zero_add, h j hj]
theorem app_row2 {g g' : Nat → Nat → D} {n sz : Nat} {cs : List D} (h0 : ∀ i j, i < n → j < sz → g i j = g' i j) (h : ∀ j, j < sz → cs.getD j .nilp = g' n j) (i j : Nat) (hi : i < n + 1) (hj : j < sz) : appF n g (rowF sz cs) i j = g' i j := by
  unfold appF rowF
  by_cases e : i < n
  · rw [if_pos e, h0 i j e hj]
  · obtain rfl : i = n := by omega
    rw [if_neg e, Nat.sub_self, Nat.zero_mul, Nat.zero_add, h j hj]
def mapD : List D → List A
  | [] => []
  | x :: r => .d x :: mapD r
theorem mapD_eq : ∀ l, mapD l = l.map A.d
  | [] => rfl
  | x :: r => by simp [mapD, mapD_eq r]
section
variable [Ops]
def wargs : List A → AHeap → (List A → AHeap → Prop) → Prop
  | [], H, K => K [] H
  | a :: r, H, K => match a with
    | .agg cs => wdatas cs H (fun ds H' => wargs r H' (fun asx H'' => K (.agg (mapD ds) :: asx) H''))
    | .clo f x y => wargs r H (fun asx H'' => K (.clo f x y :: asx) H'')
    | .ptr o k => wargs r H (fun asx H'' => K (.ptr o k :: asx) H'')
    | .undef => wargs r H (fun asx H'' => K (.undef :: asx) H'')
    | a => wdata a H (fun d H' => wargs r H' (fun asx H'' => K (.d d :: asx) H''))
variable [Glb] [Lim]
theorem wargs_ok (asx : List A) : ∀ {B : Gd} {ι : Nat → Option Nat} {w : World} {I : Nat → Nat → Prop} {H : AHeap} (r : Rel B ι I w H) {vs : List Value} (hv : RepL w I ι H vs asx) {K : List A → AHeap → Prop} (h : wargs asx H K),
    ∃ I' H' xs, Stay B w I ι H I' H' ∧ RepL w I' ι H' vs xs ∧ K xs H' := by
  induction asx with
  | nil => intro B ι w I H r vs hv K h; exact ⟨I, H, [], .refl r, hv, h⟩
  | cons a asx ih =>
    intro B ι w I H r vs hv K h
    obtain ⟨hl, hk⟩ := hv
    cases vs with
    | nil => simp at hl
    | cons v vs =>
      have h0 := hk 0 (by simp)
      simp only [List.getD_cons_zero] at h0
      have hr : RepL w I ι H vs asx := ⟨by simpa using hl, fun k hk' => by simpa using hk (k + 1) (by simpa using hk')⟩
      have fin : ∀ {I1 : Nat → Nat → Prop} {H1 : AHeap} {x : A}, Stay B w I ι H I1 H1 → RepA w I1 ι H1 v x → wargs asx H1 (fun asx H'' => K (x :: asx) H'') →
          ∃ I' H' xs, Stay B w I ι H I' H' ∧ RepL w I' ι H' (v :: vs) xs ∧ K xs H' := fun {I1 H1 x} s1 d1 h1 => by
        obtain ⟨I2, H2, xs, s2, d2, h2⟩ := ih s1.1 (vs := vs) ⟨hr.1, fun k hk' => (hr.2 k hk').goes s1.2⟩ h1
        refine ⟨I2, H2, x :: xs, s1.trans s2, ⟨by simp [d2.1], fun k hk' => ?_⟩, h2⟩
        cases k with
        | zero => simpa using d1.goes s2.2
        | succ k => simpa using d2.2 k (by simpa using hk')
      have one : ∀ {a : A}, RepA w I ι H v a → wdata a H (fun d H' => wargs asx H' (fun asx H'' => K (.d d :: asx) H'')) → ∃ I' H' xs, Stay B w I ι H I' H' ∧ RepL w I' ι H' (v :: vs) xs ∧ K xs H' := fun h0 h => by
        obtain ⟨I1, H1, x, s1, d1, h1⟩ := wdata_ok r h0 h
        exact fin s1 (.d _ _ d1) h1
      cases a with
      | agg cs =>
        cases h0 with | agg ws _ l1 r1 =>
        obtain ⟨I1, H1, xs, s1, l2, d1, h1⟩ := wdatas_ok cs r (vs := ws) (by omega) r1 h
        refine fin s1 (.agg ws _ (by rw [mapD_eq]; simp; omega) fun k hk' => ?_) h1
        rw [mapD_eq] at hk' ⊢
        have hk2 : k < xs.length := by simpa using hk'
        have := d1 k (by omega)
        simp only [List.getD_eq_getElem?_getD, List.getElem?_map, List.getElem?_eq_getElem hk2, Option.map_some, Option.getD_some] at this ⊢
        exact .d _ _ this
      | clo f x y => exact fin (.refl r) h0 h
      | ptr o k => exact fin (.refl r) h0 h
      | undef => exact fin (.refl r) h0 h
      | d x => exact one h0 h
      | nils => exact one h0 h
      | ref o off len sz => exact one h0 h
      | eptr o i j l => exact one h0 h
      | iptr g i j sz => exact one h0 h
      | itr o => exact one h0 h
      | tup xs => exact one h0 h
end
/-- THE CALL with own slices frozen -/
theorem CallW.frz [Glb] {P : Unit → Program} {K : FuncId} {args : List A} {H : AHeap} {R : A → AHeap → Prop} (h : ∀ [Ops], wargs args H (fun asx H' => CallW P K asx H' R)) : CallW P K args H R := by
  refine Ops.exists_one.elim fun inst => ⟨fun lim B ι I w vs hrel hargs => ?_⟩
  obtain ⟨I', H', xs, s, hr, hc⟩ := @wargs_ok inst _ lim args B ι w I H hrel vs hargs _ h
  rw [CallW_eq] at hc
  refine (hc lim B ι I' w vs s.1 hr).mono ?_
  rintro e w' ⟨v, r, H2, ι2, I2, rfl, h2, h3, h4, h5⟩
  exact ⟨v, r, H2, ι2, I2, rfl, h2, h3, h4, Keep.trans (@Keep.goes inst _ lim B w w w I I I' ι ι ι H H H' ⟨.refl _ _, fun _ _ _ => rfl, fun _ _ h => h, Nat.le_refl _, fun _ _ h => h⟩ s.2 (.refl _ _)) h5⟩
/-- THE CALL with arguments of which less is known -/
theorem CallW.args [Glb] {P : Unit → Program} {K : FuncId} {args args' : List A} {H : AHeap} {R : A → AHeap → Prop} (h : ∀ [Ops] [Lim], leAs args' args) (hc : CallW P K args' H R) : CallW P K args H R := by
  refine Ops.exists_one.elim fun inst => ⟨fun lim B ι I w vs hrel hargs => ?_⟩
  rw [CallW_eq] at hc
  obtain ⟨h1, h2⟩ := leAs_get h
  exact hc lim B ι I w vs hrel ⟨by rw [hargs.1, h1], fun k hk => leA_rep (hargs.2 k (by omega)) (h2 k hk)⟩
theorem leAs_refl [Ops] [Glb] [Lim] : ∀ xs : List A, leAs xs xs
  | [] => trivial
  | x :: r => ⟨by cases x <;> first | exact trivial | exact rfl | exact Deq.refl _ | exact ⟨_, rfl, leLs_refl _⟩, leAs_refl r⟩
theorem CallW.dq [Glb] {P : Unit → Program} {K : FuncId} {x y : D} {asx : List A} {H : AHeap} {R : A → AHeap → Prop} (h : Deq x y) (hc : CallW P K (.d y :: asx) H R) : CallW P K (.d x :: asx) H R :=
  CallW.args (args' := .d y :: asx) (fun {_ _} => ⟨h, leAs_refl _⟩) hc
/-- a nil slice that comes back, as an own slice of no elements -/
theorem VCalls.ghost [Glb] {P : Program} {K : FuncId} {args : List A} {H : AHeap} {R R' : A → AHeap → Prop} (h : VCalls P K args H R) (sz : Nat) (g : Nat → Nat → D)
    (hr : ∀ r H', R r H' → R' r H' ∨ (r = .nils ∧ R' (.ref H'.length 0 0 sz) (H' ++ [.arr 0 sz g 0]))) : VCalls P K args H R' :=
  fun lim B ι I w vs hrel hargs => (h lim B ι I w vs hrel hargs).mono fun e w' ⟨v, r, H', ι', I', h1, h2, h3, h4, h5⟩ => by
    refine Ops.exists_one.elim fun inst => ?_
    rcases hr r H' h2 with h6 | ⟨rfl, h6⟩
    · exact ⟨v, r, H', ι', I', h1, h6, h3, h4, h5⟩
    · have gg := Goes.new (w := w') (w' := w') (fun _ _ => rfl) h3.imm ι' H' (.arr 0 sz g 0) none
      refine ⟨v, _, _, updι ι' H'.length none, I', h1, h6, ?_, ?_, @Keep.goes inst _ lim B w w' w' I I' I' ι ι' _ H H' _ h5 gg (.refl _ _)⟩
      · refine h3.new (Nat.le_refl _) (fun _ _ => rfl) _ _ (fun b' e => by cases e) ?_
        exact ⟨Nat.zero_le _, .inr ⟨by simp [updι], rfl⟩⟩
      · cases h4 with | nils =>
        refine .ref _ _ _ _ _ (by simp) (fun n' sz'' get'' fz' h _ => ?_) ⟨_, _, rfl⟩
        rw [List.getElem?_append_right (Nat.le_refl _)] at h
        simp at h
        obtain ⟨rfl, rfl, rfl, rfl⟩ := h
        exact ⟨by omega, fun _ => .inr (.inl ⟨by simp [updι], rfl, rfl⟩)⟩
end Go.VM

/- Arguments opened: what a value of a type of numbers, texts, slices and structs stands for. -/
set_option linter.unusedSimpArgs false
set_option linter.unusedVariables false
namespace Go.VM
open Go Go.ChangeShapes Go.WideShapes Go.ChangeAt Go.RowKit

mutual
/-- data of a type -/
inductive Shp (P : Program) : TypeId → List D → Prop
  | int {t : TypeId} {k : IntKind} {n : Int} (h : P.underlying t = some (.int k)) (hw : (Lit.int k n).wf = true) : Shp P t [.int k n]
  | str {t : TypeId} {s : ByteArray} (h : P.underlying t = some .string) (hs : s.size ≤ maxLen) : Shp P t [.str s]
  | bool {t : TypeId} {b : Bool} (h : P.underlying t = some .bool) : Shp P t [.bool b]
  | slice {t e : TypeId} {n : Nat} {get : Nat → Nat → D} (h : P.underlying t = some (.slice e)) (hn : n ≤ maxLen) (hall : ∀ i, i < n → Shp P e ((List.range (P.cellsOf e)).map (get i))) : Shp P t [.sl n (P.cellsOf e) get]
  | struct {t : TypeId} {fs : Array Field} {ds : List D} (h : P.underlying t = some (.struct fs)) (hf : ShpF P fs.toList ds) : Shp P t ds
inductive ShpF (P : Program) : List Field → List D → Prop
  | nil : ShpF P [] []
  | cons {f : Field} {r : List Field} {d1 d2 : List D} (h1 : Shp P f.type d1) (hl : d1.length = P.cellsOf f.type) (h2 : ShpF P r d2) : ShpF P (f :: r) (d1 ++ d2)
end
theorem Shp.int_inv {P : Program} {t : TypeId} {k : IntKind} {ds : List D} (hu : P.underlying t = some (.int k)) (h : Shp P t ds) : ∃ n, ds = [.int k n] ∧ (Lit.int k n).wf = true := by
  cases h with
  | int h hw => rw [hu] at h; cases h; exact ⟨_, rfl, hw⟩
  | str h => rw [hu] at h; cases h
  | bool h => rw [hu] at h; cases h
  | slice h => rw [hu] at h; cases h
  | struct h => rw [hu] at h; cases h
theorem Shp.str_inv {P : Program} {t : TypeId} {ds : List D} (hu : P.underlying t = some .string) (h : Shp P t ds) : ∃ s, ds = [.str s] ∧ s.size ≤ maxLen := by
  cases h with
  | int h hw => rw [hu] at h; cases h
  | str h hs => exact ⟨_, rfl, hs⟩
  | bool h => rw [hu] at h; cases h
  | slice h => rw [hu] at h; cases h
  | struct h => rw [hu] at h; cases h
theorem Shp.bool_inv {P : Program} {t : TypeId} {ds : List D} (hu : P.underlying t = some .bool) (h : Shp P t ds) : ∃ b, ds = [.bool b] := by
  cases h with
  | int h hw => rw [hu] at h; cases h
  | str h => rw [hu] at h; cases h
  | bool h => exact ⟨_, rfl⟩
  | slice h => rw [hu] at h; cases h
  | struct h => rw [hu] at h; cases h
theorem Shp.slice_inv {P : Program} {t e : TypeId} {ds : List D} (hu : P.underlying t = some (.slice e)) (h : Shp P t ds) :
    ∃ n get, ds = [.sl n (P.cellsOf e) get] ∧ n ≤ maxLen ∧ ∀ i, i < n → Shp P e ((List.range (P.cellsOf e)).map (get i)) := by
  cases h with
  | int h hw => rw [hu] at h; cases h
  | str h => rw [hu] at h; cases h
  | bool h => rw [hu] at h; cases h
  | slice h hn hall => rw [hu] at h; cases h; exact ⟨_, _, rfl, hn, hall⟩
  | struct h => rw [hu] at h; cases h
theorem Shp.struct_inv {P : Program} {t : TypeId} {fs : Array Field} {ds : List D} (hu : P.underlying t = some (.struct fs)) (h : Shp P t ds) : ShpF P fs.toList ds := by
  cases h with
  | int h hw => rw [hu] at h; cases h
  | str h => rw [hu] at h; cases h
  | bool h => rw [hu] at h; cases h
  | slice h => rw [hu] at h; cases h
  | struct h hf => rw [hu] at h; cases h; exact hf

def seqF (P : Program) : Nat → List Field → Nat → Bool
  | off, [], n => Nat.beq off n
  | off, f :: r, n => Nat.beq f.offset off && seqF P (off + P.cellsOf f.type) r n
/-- the types of a list read plainly -/
def plainT (P : Program) (ts : List TypeId) (t : TypeId) : Bool :=
  match P.underlying t with
  | some (.int _) => Nat.beq (P.cellsOf t) 1
  | some .string => Nat.beq (P.cellsOf t) 1
  | some .bool => Nat.beq (P.cellsOf t) 1
  | some (.slice e) => ts.contains e && Nat.blt 0 (P.cellsOf e) && Nat.beq (P.cellsOf t) 1
  | some (.struct fs) => fs.toList.all (fun f => ts.contains f.type) && seqF P 0 fs.toList (P.cellsOf t)
  | _ => false

variable {H : Type} {enc : TypeId × Value → H} {P : Program} {w : World} {base : Nat} {sp : Nat → Bool} {held : Bool}

theorem fields_open {ts : List TypeId} {m : Nat} (ih : ∀ t cs x, t ∈ ts → DataW.trod enc P w base sp held m t cs = some x → ∃ ds : List D, ds.length = cs.length ∧ cs.length = P.cellsOf t ∧ (∀ k, k < ds.length → RepD w (fun b _ => b < w.heap.size) (cs.getD k undef) (ds.getD k .nilp)) ∧ Shp P t ds)
    (cs : List Value) : ∀ (l : List Field) (off : Nat), (∀ f, f ∈ l → f.type ∈ ts) → seqF P off l cs.length = true → (∀ f, f ∈ l → ∃ x, DataW.trod enc P w base sp held m f.type (List.take (P.cellsOf f.type) (List.drop f.offset cs)) = some x) →
    ∃ ds : List D, ds.length + off = cs.length ∧ (∀ k, k < ds.length → RepD w (fun b _ => b < w.heap.size) (cs.getD (off + k) undef) (ds.getD k .nilp)) ∧ ShpF P l ds
  | [], off, _, hs, _ => ⟨[], by simp only [seqF, Nat.beq_eq] at hs; simpa using hs, fun k hk => absurd hk (by simp), .nil⟩
  | f :: r, off, ht, hs, hx => by
    simp only [seqF, Bool.and_eq_true, Nat.beq_eq] at hs
    obtain ⟨x, hx0⟩ := hx f (by simp)
    obtain ⟨d1, h1, h2, h3, h4⟩ := ih _ _ x (ht f (by simp)) hx0
    obtain ⟨d2, k1, k2, k3⟩ := fields_open ih cs r (off + P.cellsOf f.type) (fun g hg => ht g (by simp [hg])) hs.2 (fun g hg => hx g (by simp [hg]))
    refine ⟨d1 ++ d2, by simp only [List.length_append]; omega, fun k hk => ?_, .cons h4 (h1.trans h2) k3⟩
    by_cases h : k < d1.length
    · have e1 : (d1 ++ d2).getD k .nilp = d1.getD k .nilp := by simp [List.getD_eq_getElem?_getD, List.getElem?_append, h]
      have e2 : (List.take (P.cellsOf f.type) (List.drop f.offset cs)).getD k undef = cs.getD (off + k) undef := by
        simp only [List.getD_eq_getElem?_getD, List.getElem?_take, List.getElem?_drop, hs.1]
        rw [if_pos (by omega)]
      rw [e1, ← e2]
      exact h3 k h
    · have e1 : (d1 ++ d2).getD k .nilp = d2.getD (k - d1.length) .nilp := by simp [List.getD_eq_getElem?_getD, List.getElem?_append, h]
      rw [e1]
      simp only [List.length_append] at hk
      have := k2 (k - d1.length) (by omega)
      rwa [show off + P.cellsOf f.type + (k - d1.length) = off + k by omega] at this

theorem mapM_some {α β : Type} {f : α → Option β} : ∀ {l : List α} {ys : List β}, l.mapM f = some ys → ∀ x, x ∈ l → ∃ y, f x = some y
  | [], _, _, x, hx => by simp at hx
  | a :: l, ys, h, x, hx => by
    rw [List.mapM_cons] at h
    cases hf : f a with
    | none => rw [hf] at h; cases h
    | some y =>
      rw [hf] at h
      cases hl : l.mapM f with
      | none => rw [hl] at h; cases h
      | some zs =>
        rcases List.mem_cons.1 hx with rfl | hx
        · exact ⟨y, hf⟩
        · exact mapM_some hl x hx
theorem slice_elem {fuel : Nat} {t e : TypeId} {a : Addr} {len cap : Nat} {x : DataW H × List MemPlace} (hu : P.underlying t = some (.slice e)) (h : DataW.trod enc P w base sp held (fuel + 1) t [.slice (some a) len cap] = some x) (i : Nat) (hi : i < len) :
    ∃ y, (w.cells? base (a.add (i * P.cellsOf e)) (P.cellsOf e)).bind (DataW.trod enc P w base sp held fuel e) = some y := by
  simp only [DataW.trod, hu] at h
  split at h
  · cases hm : (List.range len).mapM fun i => (w.cells? base (a.add (i * P.cellsOf e)) (P.cellsOf e)).bind (DataW.trod enc P w base sp held fuel e) with
    | none => rw [hm] at h; cases h
    | some ys => exact mapM_some hm i (by simpa using hi)
  · cases h
theorem trod_open {ts : List TypeId} (hts : ∀ t, t ∈ ts → plainT P ts t = true) : ∀ (fuel : Nat) (t : TypeId) (cs : List Value) (x : DataW H × List MemPlace), t ∈ ts → DataW.trod enc P w base sp held fuel t cs = some x →
    ∃ ds : List D, ds.length = cs.length ∧ cs.length = P.cellsOf t ∧ (∀ k, k < ds.length → RepD w (fun b _ => b < w.heap.size) (cs.getD k undef) (ds.getD k .nilp)) ∧ Shp P t ds
  | 0, t, cs, x, _, h => by simp [DataW.trod] at h
  | fuel + 1, t, cs, x, ht, h => by
    have hp := hts t ht
    have one : ∀ {v : Value} {d : D}, cs = [v] → RepD w (fun b _ => b < w.heap.size) v d → P.cellsOf t = 1 → Shp P t [d] → ∃ ds : List D, ds.length = cs.length ∧ cs.length = P.cellsOf t ∧ (∀ k, k < ds.length → RepD w (fun b _ => b < w.heap.size) (cs.getD k undef) (ds.getD k .nilp)) ∧ Shp P t ds := fun {v d} e hr hc hs => by
      subst e
      refine ⟨[d], rfl, by simp [hc], fun k hk => ?_, hs⟩
      obtain rfl : k = 0 := by simpa using hk
      simpa using hr
    unfold plainT at hp
    split at hp
    · rename_i k hu
      obtain ⟨n, rfl, _, hw⟩ := DataW.trod_int hu h
      exact one rfl (.int k n) (by simpa using hp) (.int hu hw)
    · rename_i hu
      obtain ⟨s, rfl, _, hs⟩ := DataW.trod_string hu h
      exact one rfl (.str s) (by simpa using hp) (.str hu hs)
    · rename_i hu
      obtain ⟨b, rfl, _⟩ := DataW.trod_bool hu h
      exact one rfl (.bool b) (by simpa using hp) (.bool hu)
    · rename_i e hu
      simp only [Bool.and_eq_true, Nat.beq_eq, Nat.blt_eq] at hp
      have he : e ∈ ts := by simpa using hp.1.1
      rcases Go.Deep.open_slice hu h with ⟨rfl, _⟩ | ⟨a, len, cap, m, n, D', Pl, rfl, hb, hl, hm, hmm, hx, hall⟩
      · exact one (d := .sl 0 (P.cellsOf e) (fun _ _ => .nilp)) rfl (.sl0 _ _ _ _) hp.2 (.slice hu (Nat.zero_le _) fun i hi => absurd hi (Nat.not_lt_zero _))
      · have hlm : len ≤ m := by rw [hmm]; split <;> omega
        by_cases h0 : len = 0
        · subst h0
          exact one (d := .sl 0 (P.cellsOf e) (fun _ _ => .nilp)) rfl (.sl0 _ _ _ _) hp.2 (.slice hu (Nat.zero_le _) fun i hi => absurd hi (Nat.not_lt_zero _))
        have each : ∀ i, i < len → ∃ cs' : List Value, ∃ ds : List D, w.cells? base (a.add (i * P.cellsOf e)) (P.cellsOf e) = some cs' ∧ ds.length = cs'.length ∧ cs'.length = P.cellsOf e ∧ (∀ k, k < ds.length → RepD w (fun b _ => b < w.heap.size) (cs'.getD k undef) (ds.getD k .nilp)) ∧ Shp P e ds := fun i hi => by
          obtain ⟨y, hy⟩ := slice_elem hu h i hi
          cases hc : w.cells? base (a.add (i * P.cellsOf e)) (P.cellsOf e) with
          | none => rw [hc] at hy; cases hy
          | some cs' =>
            rw [hc] at hy
            obtain ⟨ds, d1, d2, d3, d4⟩ := trod_open hts fuel e cs' y he hy
            exact ⟨cs', ds, rfl, d1, d2, d3, d4⟩
        let Q : Nat → List D := fun i => if h : i < len then (each i h).choose_spec.choose else []
        have hQ : ∀ i, i < len → ∃ cs' : List Value, w.cells? base (a.add (i * P.cellsOf e)) (P.cellsOf e) = some cs' ∧ (Q i).length = cs'.length ∧ cs'.length = P.cellsOf e ∧ (∀ k, k < (Q i).length → RepD w (fun b _ => b < w.heap.size) (cs'.getD k undef) ((Q i).getD k .nilp)) ∧ Shp P e (Q i) := fun i hi => by
          simp only [Q, dif_pos hi]
          exact ⟨_, (each i hi).choose_spec.choose_spec⟩
        have hcell : ∀ i j, i < len → j < P.cellsOf e → ∃ v, w.cell? (a.add (i * P.cellsOf e + j)) = some v ∧ RepD w (fun b _ => b < w.heap.size) v ((Q i).getD j .nilp) := fun i j hi hj => by
          obtain ⟨cs', q1, q2, q3, q4, q5⟩ := hQ i hi
          obtain ⟨_, c2, c3⟩ := World.cells?_some q1
          have := c3 j hj
          rw [Go.Deep.add_add] at this
          have hjl : j < cs'.length := by omega
          rw [List.getElem?_eq_getElem hjl] at this
          have q := q4 j (by omega)
          rw [List.getD_eq_getElem?_getD, List.getElem?_eq_getElem hjl] at q
          exact ⟨_, this, q⟩
        obtain ⟨v0, z0, _⟩ := hcell 0 0 (by omega) hp.1.2
        obtain ⟨b, o, spt⟩ := a
        simp only [Nat.zero_mul, Nat.zero_add] at z0
        have hsp : spt = none := by
          have z : w.cell? ((⟨b, o, spt⟩ : Addr).add 0) = some v0 := z0
          unfold World.cell? at z
          split at z
          · cases spt with
            | none => rfl
            | some x => simp [Addr.add] at z
          · cases z
        subst hsp
        have hadd : ∀ j, (⟨b, o, none⟩ : Addr).add j = ⟨b, o + j, none⟩ := fun j => by unfold Addr.add; split <;> simp_all
        have hlt : b < w.heap.size := by
          rw [hadd] at z0
          unfold World.cell? at z0
          split at z0
          · rename_i c _ _ hc; exact (Array.getElem?_eq_some_iff.1 hc).1
          · cases z0
        refine one (d := .sl len (P.cellsOf e) (fun i j => (Q i).getD j .nilp)) rfl (.sl b o len cap _ _ (fun i j => (w.cell? ⟨b, o + (i * P.cellsOf e + j), none⟩).getD undef) hl (fun i j hi hj => ⟨hlt, ?_⟩) (fun i j hi hj => ?_)) hp.2 (.slice hu (by omega) fun i hi => ?_)
        · obtain ⟨v, h1, h2⟩ := hcell i j hi hj
          rw [hadd] at h1
          rw [h1]; rfl
        · obtain ⟨v, h1, h2⟩ := hcell i j hi hj
          rw [hadd] at h1
          rw [h1]; exact h2
        · obtain ⟨cs', q1, q2, q3, q4, q5⟩ := hQ i hi
          have : (List.range (P.cellsOf e)).map (fun j => (Q i).getD j .nilp) = Q i := by
            apply List.ext_getElem
            · simp; omega
            · intro k h1 h2
              simp [List.getD_eq_getElem?_getD, List.getElem?_eq_getElem h2]
          rw [this]; exact q5
    · rename_i fs hu
      simp only [Bool.and_eq_true, List.all_eq_true] at hp
      obtain ⟨xs, n, hn, hxx, hlen, hlx, hfs⟩ := DataW.trod_struct hu h
      obtain rfl : fuel = n := by omega
      obtain ⟨ds, h1, h2, h3⟩ := fields_open (enc := enc) (base := base) (sp := sp) (held := held) (ts := ts) (m := fuel) (fun t cs x ht h => trod_open hts fuel t cs x ht h) cs fs.toList 0 (fun f hf => by simpa using hp.1 f hf) (by rw [hlen]; exact hp.2) (fun f hf => by
        obtain ⟨i, hi, rfl⟩ := List.getElem_of_mem hf
        have hi' : i < fs.size := by simpa using hi
        have := hfs i fs[i] (by simp [hi'])
        rw [List.getElem?_eq_getElem (by omega)] at this
        exact ⟨_, by simpa using this⟩)
      exact ⟨ds, by omega, hlen, fun k hk => by simpa using h2 k hk, .struct hu h3⟩
    · cases hp
end Go.VM

/- Levels: what it is to be valid, the order, the value, and how the order is told by values. -/
namespace Go.VM
set_option linter.unusedVariables false
set_option linter.unusedSimpArgs false

/-- the parts of a level, as data -/
def lvF (V P : Nat → Int) : Nat → Nat → D := fun i j => match j with | 0 => .int .i64 (V i) | _ => .int .i64 (P i)
def PartP (V P : Nat → Int) (i : Nat) : Prop := 0 ≤ V i ∧ V i < 1200 ∧ 0 ≤ P i ∧ P i ≤ 1000 ∧ ∀ k, k < i → V k ≠ V i
def ValidP (c : Int) (n : Nat) (V P : Nat → Int) : Prop := 0 ≤ c ∧ c ≤ 1000 ∧ n ≤ 8 ∧ ∀ i, i < n → PartP V P i
def mostF (P : Nat → Int) : Nat → Int
  | 0 => -1
  | n + 1 => max (mostF P n) (P n)
def leastF (P : Nat → Int) (c : Int) : Nat → Int
  | 0 => c
  | n + 1 => max (leastF P c n) (P n)
def InP (V P : Nat → Int) (n' : Nat) (V' P' : Nat → Int) (i : Nat) : Prop := ∃ k, k < n' ∧ V' k = V i ∧ P i ≤ P' k
def LeqP (c : Int) (n : Nat) (V P : Nat → Int) (c' : Int) (n' : Nat) (V' P' : Nat → Int) : Prop :=
  (∀ i, i < n → InP V P n' V' P' i) ∧ c ≤ max c' (mostF P' n')

theorem mostF_le (P : Nat → Int) : ∀ (n : Nat) (i : Nat), i < n → P i ≤ mostF P n
  | n + 1, i, h => by
    unfold mostF
    by_cases e : i = n
    · subst e; omega
    · have := mostF_le P n i (by omega); omega
theorem mostF_ge (P : Nat → Int) : ∀ n, -1 ≤ mostF P n
  | 0 => by unfold mostF; omega
  | n + 1 => by have := mostF_ge P n; unfold mostF; omega
theorem leastF_most (P : Nat → Int) (c : Int) (hc : 0 ≤ c) : ∀ n, leastF P c n = max c (mostF P n)
  | 0 => by unfold leastF mostF; omega
  | n + 1 => by have := leastF_most P c hc n; unfold leastF mostF; omega
theorem mostF_lub (P : Nat → Int) (b : Int) (hb : -1 ≤ b) : ∀ n, (∀ i, i < n → P i ≤ b) → mostF P n ≤ b
  | 0, _ => by unfold mostF; omega
  | n + 1, h => by have := mostF_lub P b hb n (fun i hi => h i (by omega)); have := h n (by omega); unfold mostF; omega

theorem leq_least {c c' : Int} {n n' : Nat} {V P V' P' : Nat → Int} (hc : 0 ≤ c) (hc' : 0 ≤ c') (h : ∀ i, i < n → InP V P n' V' P' i) :
    c ≤ max c' (mostF P' n') ↔ leastF P c n ≤ leastF P' c' n' := by
  rw [leastF_most P c hc, leastF_most P' c' hc']
  have : mostF P n ≤ mostF P' n' := mostF_lub P _ (mostF_ge _ _) n fun i hi => by
    obtain ⟨k, h1, h2, h3⟩ := h i hi
    have := mostF_le P' n' k h1
    omega
  omega

theorem LeqP_ref {c c' : Int} {n n' : Nat} {V P V' P' : Nat → Int} (hc : 0 ≤ c) (hc' : 0 ≤ c') :
    LeqP c n V P c' n' V' P' ↔ leastF P c n ≤ leastF P' c' n' ∧ ∀ i, i < n → InP V P n' V' P' i :=
  ⟨fun ⟨h1, h2⟩ => ⟨(leq_least hc hc' h1).1 h2, h1⟩, fun ⟨h1, h2⟩ => ⟨h2, (leq_least hc hc' h2).2 h1⟩⟩

/-- the value of a variable -/
def atF (m : Nat) (N : Nat → Int) (v : Int) : Int := if v < m then max (N v.toNat) 0 else 0
/-- the value of a level's first parts; none: a number out of range -/
def evalF (V P : Nat → Int) (m : Nat) (N : Nat → Int) (c : Int) : Nat → Option Int
  | 0 => some c
  | n + 1 => match evalF V P m N c n with
    | none => none
    | some x => if atF m N (V n) > 2147483647 then none else some (max x (atF m N (V n) + P n))

theorem evalF_none (V P : Nat → Int) (m : Nat) (N : Nat → Int) (c : Int) : ∀ n i, i < n → atF m N (V i) > 2147483647 → evalF V P m N c n = none
  | n + 1, i, h, hv => by
    unfold evalF
    by_cases e : i = n
    · subst e
      split
      · rfl
      · rw [if_pos hv]
    · rw [evalF_none V P m N c n i (by omega) hv]

/-- the value where all numbers are in range -/
def evV (V P : Nat → Int) (x : Int → Int) (c : Int) : Nat → Int
  | 0 => c
  | n + 1 => max (evV V P x c n) (x (V n) + P n)
theorem evalF_some (V P : Nat → Int) (m : Nat) (N : Nat → Int) (c : Int) (x : Int → Int) : ∀ n, (∀ i, i < n → atF m N (V i) = x (V i) ∧ x (V i) ≤ 2147483647) → evalF V P m N c n = some (evV V P x c n)
  | 0, _ => rfl
  | n + 1, h => by
    obtain ⟨h1, h2⟩ := h n (by omega)
    unfold evalF evV
    rw [evalF_some V P m N c x n fun i hi => h i (by omega), h1]
    dsimp only
    rw [if_neg (by omega)]
theorem evV_ge (V P : Nat → Int) (x : Int → Int) (c : Int) : ∀ n, c ≤ evV V P x c n ∧ ∀ i, i < n → x (V i) + P i ≤ evV V P x c n
  | 0 => ⟨Int.le_refl _, fun i h => by omega⟩
  | n + 1 => by
    obtain ⟨h1, h2⟩ := evV_ge V P x c n
    unfold evV
    refine ⟨by omega, fun i hi => ?_⟩
    by_cases e : i = n
    · subst e; omega
    · have := h2 i (by omega); omega
theorem evV_le (V P : Nat → Int) (x : Int → Int) (c b : Int) (hc : c ≤ b) : ∀ n, (∀ i, i < n → x (V i) + P i ≤ b) → evV V P x c n ≤ b
  | 0, _ => hc
  | n + 1, h => by
    have h1 := evV_le V P x c b hc n fun i hi => h i (by omega)
    have h2 := h n (by omega)
    unfold evV; omega

theorem evV_most {V P : Nat → Int} {x : Int → Int} {c : Int} {n : Nat} (hx : ∀ v, 0 ≤ x v) (hc : 0 ≤ c) : max c (mostF P n) ≤ evV V P x c n := by
  obtain ⟨e1, e2⟩ := evV_ge V P x c n
  have := mostF_lub P (evV V P x c n) (by omega) n fun i hi => by have := e2 i hi; have := hx (V i); omega
  omega
theorem leq_ev {c c' : Int} {n n' : Nat} {V P V' P' : Nat → Int} (x : Int → Int) (hx : ∀ v, 0 ≤ x v) (hc : 0 ≤ c') (h : LeqP c n V P c' n' V' P') : evV V P x c n ≤ evV V' P' x c' n' := by
  obtain ⟨h1, h2⟩ := h
  have := evV_most (V := V') (P := P') (n := n') hx hc
  refine evV_le V P x c _ (by omega) n fun i hi => ?_
  obtain ⟨k, k1, k2, k3⟩ := h1 i hi
  have := (evV_ge V' P' x c' n').2 k k1
  rw [k2] at this
  omega
theorem leq_of_ev {c c' : Int} {n n' : Nat} {V P V' P' : Nat → Int} (ha : ValidP c n V P) (hb : ValidP c' n' V' P')
    (h0 : evV V P (fun _ => 0) c n ≤ evV V' P' (fun _ => 0) c' n') (h1 : ∀ i, i < n → evV V P (fun v => if v = V i then 1001 else 0) c n ≤ evV V' P' (fun v => if v = V i then 1001 else 0) c' n') : LeqP c n V P c' n' V' P' := by
  obtain ⟨a1, a2, a3, a4⟩ := ha
  obtain ⟨b1, b2, b3, b4⟩ := hb
  refine ⟨fun i hi => ?_, ?_⟩
  · refine Classical.byContradiction fun hno => ?_
    have hno : ∀ k, k < n' → V' k = V i → P' k < P i := fun k hk e => by
      by_cases h : P i ≤ P' k
      · exact absurd ⟨k, hk, e, h⟩ hno
      · omega
    have h := h1 i hi
    have g1 := (evV_ge V P (fun v => if v = V i then 1001 else 0) c n).2 i hi
    have g2 := evV_le V' P' (fun v => if v = V i then 1001 else 0) c' (1000 + P i) (by have := (a4 i hi).2.2.1; omega) n' fun k hk => by
      obtain ⟨_, _, p1, p2, _⟩ := b4 k hk
      have := (a4 i hi).2.2.1
      show (if V' k = V i then (1001 : Int) else 0) + P' k ≤ 1000 + P i
      split
      · rename_i e
        have := hno k hk e
        omega
      · omega
    simp only [if_true] at g1
    omega
  · have g1 := (evV_ge V P (fun _ => 0) c n).1
    have g2 := evV_le V' P' (fun _ => 0) c' (max c' (mostF P' n')) (by omega) n' fun k hk => by
      have := mostF_le P' n' k hk
      omega
    omega
end Go.VM

/- Lists of parts in ascending order: what they tell of each variable, and that this tells them. -/
namespace Go.VM
set_option linter.unusedVariables false
set_option linter.unusedSimpArgs false
abbrev Pt := Int × Int

def omax : Option Int → Option Int → Option Int
  | none, y => y
  | some x, none => some x
  | some x, some y => some (max x y)
theorem omax_none (x : Option Int) : omax x none = x := by cases x <;> rfl
theorem omax_none' (x : Option Int) : omax none x = x := rfl
theorem omax_comm (x y : Option Int) : omax x y = omax y x := by
  cases x <;> cases y <;> simp [omax, Int.max_comm]
theorem omax_assoc (x y z : Option Int) : omax (omax x y) z = omax x (omax y z) := by
  cases x <;> cases y <;> cases z <;> simp [omax, Int.max_assoc]
/-- the greatest number that is added to a variable -/
def mx : List Pt → Int → Option Int
  | [], _ => none
  | x :: l, v => omax (if x.1 = v then some x.2 else none) (mx l v)
theorem mx_append (a b : List Pt) (v : Int) : mx (a ++ b) v = omax (mx a v) (mx b v) := by
  induction a with
  | nil => rfl
  | cons x a ih => simp only [List.cons_append, mx, ih, omax_assoc]
theorem mx_none {l : List Pt} {v : Int} : mx l v = none ↔ ∀ x, x ∈ l → x.1 ≠ v := by
  induction l with
  | nil => simp [mx]
  | cons x l ih =>
    unfold mx
    by_cases h : x.1 = v
    · rw [if_pos h]
      constructor
      · intro e; cases e' : mx l v <;> simp [e', omax] at e
      · intro e; exact absurd h (e x (by simp))
    · rw [if_neg h, omax_none', ih]
      constructor
      · intro e y hy
        rcases List.mem_cons.1 hy with rfl | hy
        · exact h
        · exact e y hy
      · intro e y hy; exact e y (List.mem_cons_of_mem _ hy)
def asc (l : List Pt) : Prop := l.Pairwise fun x y => x.1 < y.1
theorem mx_lt {l : List Pt} {v : Int} (h : ∀ x, x ∈ l → v < x.1) : mx l v = none := mx_none.2 fun x hx e => by have := h x hx; omega

theorem asc_ext : ∀ {a b : List Pt}, asc a → asc b → (∀ v, mx a v = mx b v) → a = b
  | [], [], _, _, _ => rfl
  | [], y :: b, _, _, h => by
    have := h y.1
    rw [eq_comm, show mx [] y.1 = none from rfl, mx_none] at this
    exact absurd rfl (this y (by simp))
  | x :: a, [], _, _, h => by
    have := h x.1
    rw [show mx [] x.1 = none from rfl, mx_none] at this
    exact absurd rfl (this x (by simp))
  | x :: a, y :: b, ha, hb, h => by
    have ha' := List.pairwise_cons.1 ha
    have hb' := List.pairwise_cons.1 hb
    have hx := mx_lt ha'.1
    have hy := mx_lt hb'.1
    have e1 : x.1 = y.1 := by
      rcases Int.lt_trichotomy x.1 y.1 with h1 | h1 | h1
      · have := h x.1
        rw [mx_lt (l := y :: b) fun z hz => ?_, mx_none] at this
        · exact absurd rfl (this x (by simp))
        · rcases List.mem_cons.1 hz with rfl | hz
          · exact h1
          · have := hb'.1 z hz; omega
      · exact h1
      · have := h y.1
        rw [eq_comm, mx_lt (l := x :: a) fun z hz => ?_, mx_none] at this
        · exact absurd rfl (this y (by simp))
        · rcases List.mem_cons.1 hz with rfl | hz
          · exact h1
          · have := ha'.1 z hz; omega
    have e2 : x.2 = y.2 := by
      have := h x.1
      unfold mx at this
      rw [hx, omax_none, if_pos rfl, ← e1, if_pos rfl, e1, hy, omax_none] at this
      exact Option.some.inj this
    have e3 : a = b := asc_ext ha'.2 hb'.2 fun v => by
      by_cases hv : x.1 = v
      · rw [← hv, hx, e1, hy]
      · have := h v
        unfold mx at this
        rwa [if_neg hv, if_neg (e1 ▸ hv), omax_none', omax_none'] at this
    rw [e3, Prod.ext e1 e2]

/-- a part put in -/
def putL (x : Pt) : List Pt → List Pt
  | [] => [x]
  | y :: r => if x.1 < y.1 then x :: y :: r else if x.1 = y.1 then (y.1, max x.2 y.2) :: r else y :: putL x r
theorem putL_mem {x z : Pt} : ∀ {l : List Pt}, z ∈ putL x l → z.1 = x.1 ∨ z ∈ l
  | [], h => by simp [putL] at h; exact .inl (by rw [h])
  | y :: r, h => by
    unfold putL at h
    split at h
    · rcases List.mem_cons.1 h with rfl | h
      · exact .inl rfl
      · exact .inr h
    · split at h
      · rename_i e
        rcases List.mem_cons.1 h with rfl | h
        · exact .inl e.symm
        · exact .inr (List.mem_cons_of_mem _ h)
      · rcases List.mem_cons.1 h with rfl | h
        · exact .inr (by simp)
        · rcases putL_mem h with e | e
          · exact .inl e
          · exact .inr (List.mem_cons_of_mem _ e)
theorem putL_asc {x : Pt} : ∀ {l : List Pt}, asc l → asc (putL x l)
  | [], _ => by simp [putL, asc]
  | y :: r, h => by
    have h' := List.pairwise_cons.1 h
    unfold putL
    split
    · rename_i e
      exact List.pairwise_cons.2 ⟨fun z hz => by
        rcases List.mem_cons.1 hz with rfl | hz
        · exact e
        · have := h'.1 z hz; omega, h⟩
    · split
      · exact List.pairwise_cons.2 ⟨fun z hz => h'.1 z hz, h'.2⟩
      · refine List.pairwise_cons.2 ⟨fun z hz => ?_, putL_asc h'.2⟩
        rcases putL_mem hz with e | e
        · omega
        · exact h'.1 z e
theorem mx_putL {x : Pt} {v : Int} : ∀ {l : List Pt}, asc l → mx (putL x l) v = omax (mx l v) (if x.1 = v then some x.2 else none)
  | [], _ => by simp only [putL, mx, omax_none, omax_none']
  | y :: r, h => by
    have h' := List.pairwise_cons.1 h
    unfold putL
    split
    · rw [mx, omax_comm]
    · split
      · rename_i e1 e2
        simp only [mx]
        by_cases hv : x.1 = v
        · rw [if_pos hv, if_pos (by omega), if_pos (by omega)]
          have : mx r v = none := mx_lt fun z hz => by have := h'.1 z hz; omega
          rw [this]
          simp [omax]; omega
        · rw [if_neg hv, if_neg (by omega), if_neg (by omega), omax_none, omax_none']
      · simp only [mx]
        rw [mx_putL h'.2, omax_assoc]
/-- parts put in one after the other -/
def putsL (l : List Pt) : List Pt → List Pt
  | [] => l
  | x :: r => putsL (putL x l) r
theorem putsL_snoc (l r : List Pt) (x : Pt) : putsL l (r ++ [x]) = putL x (putsL l r) := by
  induction r generalizing l with
  | nil => rfl
  | cons y r ih => exact ih _
theorem putsL_asc {r : List Pt} : ∀ {l : List Pt}, asc l → asc (putsL l r) := by
  induction r with
  | nil => exact fun h => h
  | cons x r ih => exact fun h => ih (putL_asc h)
theorem mx_putsL {r : List Pt} {v : Int} : ∀ {l : List Pt}, asc l → mx (putsL l r) v = omax (mx l v) (mx r v) := by
  induction r with
  | nil => intro l h; simp [putsL, mx, omax_none]
  | cons x r ih => intro l h; rw [putsL, ih (putL_asc h), mx_putL h, omax_assoc, mx]
theorem putsL_eq {q r : List Pt} (hq : asc q) (h : ∀ v, mx q v = mx r v) : putsL [] r = q :=
  asc_ext (putsL_asc (by simp [asc])) hq fun v => by rw [mx_putsL (by simp [asc]), h v]; rfl

/-- two ascending lists merged -/
def joinL : List Pt → List Pt → List Pt
  | [], b => b
  | x :: a, [] => x :: a
  | x :: a, y :: b => if x.1 < y.1 then x :: joinL a (y :: b) else if y.1 < x.1 then y :: joinL (x :: a) b else (x.1, max x.2 y.2) :: joinL a b
termination_by a b => a.length + b.length
theorem joinL_nil (a : List Pt) : joinL a [] = a := by cases a <;> simp [joinL]
theorem joinL_nil' (a : List Pt) : joinL [] a = a := by simp [joinL]
theorem joinL_cons (x y : Pt) (a b : List Pt) : joinL (x :: a) (y :: b) = if x.1 < y.1 then x :: joinL a (y :: b) else if y.1 < x.1 then y :: joinL (x :: a) b else (x.1, max x.2 y.2) :: joinL a b := by
  rw [joinL]
theorem joinL_mem : ∀ {a b : List Pt} {z : Pt}, z ∈ joinL a b → (∃ x, x ∈ a ∧ x.1 = z.1) ∨ ∃ x, x ∈ b ∧ x.1 = z.1
  | [], b, z, h => by rw [joinL_nil'] at h; exact .inr ⟨z, h, rfl⟩
  | x :: a, [], z, h => by rw [joinL_nil] at h; exact .inl ⟨z, h, rfl⟩
  | x :: a, y :: b, z, h => by
    rw [joinL_cons] at h
    split at h
    · rcases List.mem_cons.1 h with rfl | h
      · exact .inl ⟨_, by simp, rfl⟩
      · rcases joinL_mem h with ⟨w, hw, e⟩ | ⟨w, hw, e⟩
        · exact .inl ⟨w, List.mem_cons_of_mem _ hw, e⟩
        · exact .inr ⟨w, hw, e⟩
    · split at h
      · rcases List.mem_cons.1 h with rfl | h
        · exact .inr ⟨_, by simp, rfl⟩
        · rcases joinL_mem h with ⟨w, hw, e⟩ | ⟨w, hw, e⟩
          · exact .inl ⟨w, hw, e⟩
          · exact .inr ⟨w, List.mem_cons_of_mem _ hw, e⟩
      · rcases List.mem_cons.1 h with rfl | h
        · exact .inl ⟨x, by simp, rfl⟩
        · rcases joinL_mem h with ⟨w, hw, e⟩ | ⟨w, hw, e⟩
          · exact .inl ⟨w, List.mem_cons_of_mem _ hw, e⟩
          · exact .inr ⟨w, List.mem_cons_of_mem _ hw, e⟩
termination_by a b => a.length + b.length
theorem joinL_spec : ∀ {a b : List Pt}, asc a → asc b → asc (joinL a b) ∧ ∀ v, mx (joinL a b) v = omax (mx a v) (mx b v)
  | [], b, _, hb => by rw [joinL_nil']; exact ⟨hb, fun v => rfl⟩
  | x :: a, [], ha, _ => by rw [joinL_nil]; exact ⟨ha, fun v => by rw [show mx [] v = none from rfl, omax_none]⟩
  | x :: a, y :: b, ha, hb => by
    have ha' := List.pairwise_cons.1 ha
    have hb' := List.pairwise_cons.1 hb
    rw [joinL_cons]
    split
    · rename_i e
      obtain ⟨h1, h2⟩ := joinL_spec ha'.2 hb
      refine ⟨List.pairwise_cons.2 ⟨fun z hz => ?_, h1⟩, fun v => ?_⟩
      · rcases joinL_mem hz with ⟨w, hw, e'⟩ | ⟨w, hw, e'⟩
        · have := ha'.1 w hw; omega
        · rcases List.mem_cons.1 hw with rfl | hw
          · omega
          · have := hb'.1 w hw; omega
      · rw [mx, h2, ← omax_assoc]; rfl
    · split
      · rename_i e1 e
        obtain ⟨h1, h2⟩ := joinL_spec ha hb'.2
        refine ⟨List.pairwise_cons.2 ⟨fun z hz => ?_, h1⟩, fun v => ?_⟩
        · rcases joinL_mem hz with ⟨w, hw, e'⟩ | ⟨w, hw, e'⟩
          · rcases List.mem_cons.1 hw with rfl | hw
            · omega
            · have := ha'.1 w hw; omega
          · have := hb'.1 w hw; omega
        · rw [mx, h2, show mx (y :: b) v = omax (if y.1 = v then some y.2 else none) (mx b v) from rfl, ← omax_assoc, ← omax_assoc, omax_comm (mx (x :: a) v)]
      · rename_i e1 e2
        have e : x.1 = y.1 := by omega
        obtain ⟨h1, h2⟩ := joinL_spec ha'.2 hb'.2
        refine ⟨List.pairwise_cons.2 ⟨fun z hz => ?_, h1⟩, fun v => ?_⟩
        · show x.1 < z.1
          rcases joinL_mem hz with ⟨w, hw, e'⟩ | ⟨w, hw, e'⟩
          · have := ha'.1 w hw; omega
          · have := hb'.1 w hw; omega
        · rw [mx, h2, mx, mx]
          show omax (if x.1 = v then some (max x.2 y.2) else none) _ = _
          rw [← e]
          by_cases hv : x.1 = v
          · rw [if_pos hv, if_pos hv, if_pos hv, mx_lt (l := a) fun z hz => (by have := ha'.1 z hz; omega), mx_lt (l := b) fun z hz => (by have := hb'.1 z hz; omega)]
            rfl
          · rw [if_neg hv, if_neg hv, if_neg hv]; rfl
termination_by a b => a.length + b.length

/-- the greatest number of a list of parts -/
def mostL : List Pt → Int
  | [] => -1
  | x :: l => max x.2 (mostL l)
/-- the canonical form; none: a limit is exceeded -/
def canonL (c : Int) (q : List Pt) : Option (Int × List Pt) :=
  let c' := if c ≤ mostL q then 0 else c
  if c' > 1000 ∨ mostL q > 1000 ∨ q.length > 8 then none else some (c', q)
theorem mostL_ge (l : List Pt) : -1 ≤ mostL l := by
  induction l with
  | nil => exact Int.le_refl _
  | cons x l ih => unfold mostL; omega
theorem mostL_le {l : List Pt} {b : Int} (hb : -1 ≤ b) : mostL l ≤ b ↔ ∀ x, x ∈ l → x.2 ≤ b := by
  induction l with
  | nil => simp [mostL, hb]
  | cons x l ih => simp only [mostL, List.mem_cons, forall_eq_or_imp, ← ih]; omega
theorem mostL_append (a b : List Pt) : mostL (a ++ b) = max (mostL a) (mostL b) := by
  induction a with
  | nil => have := mostL_ge b; simp [mostL]; omega
  | cons x a ih => simp only [List.cons_append, mostL, ih]; omega
end Go.VM

/- A list of parts told by functions; what is sorted by exchanging neighbours. -/
namespace Go.VM
set_option linter.unusedVariables false
set_option linter.unusedSimpArgs false

/-- the first n parts -/
def lst (V P : Nat → Int) : Nat → List Pt
  | 0 => []
  | n + 1 => lst V P n ++ [(V n, P n)]
theorem lst_length (V P : Nat → Int) : ∀ n, (lst V P n).length = n
  | 0 => rfl
  | n + 1 => by simp [lst, lst_length V P n]
theorem lst_mem {V P : Nat → Int} {x : Pt} : ∀ {n}, x ∈ lst V P n ↔ ∃ i, i < n ∧ x = (V i, P i)
  | 0 => by simp [lst]
  | n + 1 => by
    simp only [lst, List.mem_append, List.mem_singleton, lst_mem (n := n)]
    constructor
    · rintro (⟨i, h, e⟩ | e)
      · exact ⟨i, by omega, e⟩
      · exact ⟨n, by omega, e⟩
    · rintro ⟨i, h, e⟩
      by_cases h' : i = n
      · subst h'; exact .inr e
      · exact .inl ⟨i, by omega, e⟩
theorem lst_congr {V P V' P' : Nat → Int} : ∀ {n}, (∀ i, i < n → V' i = V i ∧ P' i = P i) → lst V' P' n = lst V P n
  | 0, _ => rfl
  | n + 1, h => by
    unfold lst
    rw [lst_congr (n := n) fun i hi => h i (by omega), (h n (by omega)).1, (h n (by omega)).2]
theorem lst_add (V P : Nat → Int) (n : Nat) : ∀ m, lst V P (n + m) = lst V P n ++ lst (fun i => V (n + i)) (fun i => P (n + i)) m
  | 0 => by simp [lst]
  | m + 1 => by
    rw [show n + (m + 1) = n + m + 1 by omega]
    simp only [lst, lst_add V P n m, List.append_assoc]
theorem lst_split (V P : Nat → Int) {k n : Nat} (h : k ≤ n) : lst V P n = lst V P k ++ lst (fun i => V (k + i)) (fun i => P (k + i)) (n - k) := by
  rw [← lst_add, show k + (n - k) = n by omega]
theorem lst_cons (V P : Nat → Int) (n : Nat) : lst V P (n + 1) = (V 0, P 0) :: lst (fun i => V (i + 1)) (fun i => P (i + 1)) n := by
  rw [show n + 1 = 1 + n by omega, lst_add]
  simp only [lst, List.nil_append, List.singleton_append]
  congr 1
  exact lst_congr fun i _ => ⟨by rw [show i + 1 = 1 + i by omega], by rw [show i + 1 = 1 + i by omega]⟩
theorem lst_get (V P : Nat → Int) : ∀ {n i : Nat}, i < n → (lst V P n)[i]? = some (V i, P i)
  | n + 1, i, h => by
    unfold lst
    by_cases e : i = n
    · subst e
      rw [List.getElem?_append_right (by rw [lst_length]; exact Nat.le_refl _), lst_length]; simp
    · rw [List.getElem?_append_left (by rw [lst_length]; omega)]
      exact lst_get V P (by omega)
theorem mostF_lst (V P : Nat → Int) : ∀ n, mostL (lst V P n) = mostF P n
  | 0 => rfl
  | n + 1 => by have := mostF_ge P n; rw [lst, mostL_append, mostF_lst V P n, mostF]; simp [mostL]; omega

theorem mx_perm {a b : List Pt} (h : a.Perm b) (v : Int) : mx a v = mx b v := by
  induction h with
  | nil => rfl
  | cons x _ ih => simp only [mx, ih]
  | swap x y l => simp only [mx, ← omax_assoc]; rw [omax_comm (if y.1 = v then _ else _)]
  | trans _ _ h1 h2 => rw [h1, h2]

/-- the places j - 1 and j exchanged -/
def swp (f : Nat → Int) (j : Nat) : Nat → Int := fun i => if i = j then f (j - 1) else if i = j - 1 then f j else f i
theorem lst_swp (V P : Nat → Int) {j : Nat} (h0 : 0 < j) : ∀ {n : Nat}, j < n → (lst (swp V j) (swp P j) n).Perm (lst V P n)
  | n + 1, h => by
    by_cases e : j = n
    · obtain ⟨k, rfl⟩ : ∃ k, n = k + 1 := ⟨n - 1, by omega⟩
      subst e
      simp only [lst]
      have e1 : lst (swp V (k + 1)) (swp P (k + 1)) k = lst V P k := lst_congr fun i hi => by unfold swp; rw [if_neg (by omega), if_neg (by omega), if_neg (by omega), if_neg (by omega)]; exact ⟨rfl, rfl⟩
      have e2 : ∀ f : Nat → Int, swp f (k + 1) (k + 1) = f k := fun f => by unfold swp; rw [if_pos rfl]; rfl
      have e3 : ∀ f : Nat → Int, swp f (k + 1) k = f (k + 1) := fun f => by unfold swp; rw [if_neg (by omega), if_pos (by omega)]
      rw [e1, e2, e2, e3, e3, List.append_assoc, List.append_assoc]
      exact List.Perm.append_left _ (List.Perm.swap _ _ _)
    · have e2 : ∀ f : Nat → Int, swp f j n = f n := fun f => by unfold swp; rw [if_neg (by omega), if_neg (by omega)]
      simp only [lst, e2]
      exact (lst_swp V P h0 (by omega)).append_right _

/-- the first i are in order -/
def upTo (V : Nat → Int) (i : Nat) : Prop := ∀ k l, k < l → l < i → V k ≤ V l
/-- the first i + 1 are in order but for the one at j, which is less than all behind it -/
def upBut (V : Nat → Int) (i j : Nat) : Prop := j ≤ i ∧ (∀ k l, k < l → l ≤ i → k ≠ j → l ≠ j → V k ≤ V l) ∧ ∀ l, j < l → l ≤ i → V j < V l
theorem upBut_start {V : Nat → Int} {i : Nat} (h : upTo V i) : upBut V i i := ⟨Nat.le_refl _, fun k l h1 h2 h3 h4 => h k l h1 (by omega), fun l h1 h2 => by omega⟩
theorem upBut_step {V : Nat → Int} {i j : Nat} (h : upBut V i j) (hj : 0 < j) (hlt : V j < V (j - 1)) : upBut (swp V j) i (j - 1) := by
  obtain ⟨h1, h2, h3⟩ := h
  refine ⟨by omega, fun k l a b c d => ?_, fun l a b => ?_⟩
  · unfold swp
    by_cases e1 : k = j
    · rw [if_pos e1, if_neg (by omega), if_neg (by omega)]
      exact h2 _ _ (by omega) b (by omega) (by omega)
    · rw [if_neg e1, if_neg (by omega)]
      by_cases e2 : l = j
      · rw [if_pos e2]; exact h2 _ _ (by omega) (by omega) (by omega) (by omega)
      · rw [if_neg e2, if_neg (by omega)]; exact h2 _ _ a b e1 e2
  · unfold swp
    rw [if_neg (by omega), if_pos rfl]
    by_cases e2 : l = j
    · rw [if_pos e2]; exact hlt
    · rw [if_neg e2, if_neg (by omega)]; exact h3 l (by omega) b
theorem upBut_end {V : Nat → Int} {i j : Nat} (h : upBut V i j) (hj : j = 0 ∨ V (j - 1) ≤ V j) : upTo V (i + 1) := by
  obtain ⟨h1, h2, h3⟩ := h
  intro k l a b
  by_cases e1 : l = j
  · rcases hj with hj | hj
    · omega
    · by_cases e2 : k = j - 1
      · rw [e1, e2]; exact hj
      · have := h2 k (j - 1) (by omega) (by omega) (by omega) (by omega)
        rw [e1]; omega
  · by_cases e2 : k = j
    · have := h3 l (by omega) (by omega)
      rw [e2]; omega
    · exact h2 k l a (by omega) e2 e1
def dist (V : Nat → Int) (n : Nat) : Prop := ∀ i k, k < i → i < n → V k ≠ V i
theorem dist_nodup {V P : Nat → Int} : ∀ {n : Nat}, dist V n ↔ ((lst V P n).map (·.1)).Nodup
  | 0 => by simp [lst, dist]
  | n + 1 => by
    simp only [lst, List.map_append, List.map_cons, List.map_nil, List.nodup_append, List.nodup_cons, List.not_mem_nil, not_false_eq_true, List.nodup_nil, and_self, List.mem_singleton, forall_eq, true_and]
    rw [← dist_nodup (n := n)]
    constructor
    · intro h
      refine ⟨fun i k a b => h i k a (by omega), fun x hx => ?_⟩
      obtain ⟨y, hy, rfl⟩ := List.mem_map.1 hx
      obtain ⟨k, hk, rfl⟩ := lst_mem.1 hy
      exact h n k hk (by omega)
    · rintro ⟨h1, h2⟩ i k a b
      by_cases e : i = n
      · subst e
        exact h2 _ (List.mem_map.2 ⟨_, lst_mem.2 ⟨k, a, rfl⟩, rfl⟩)
      · exact h1 i k a (by omega)
theorem dist_perm {V P V' P' : Nat → Int} {n : Nat} (h : (lst V' P' n).Perm (lst V P n)) (hd : dist V n) : dist V' n :=
  (dist_nodup (P := P')).2 ((h.map _).nodup_iff.2 ((dist_nodup (P := P)).1 hd))
theorem lst_asc {V P : Nat → Int} : ∀ {n : Nat}, (∀ k l, k < l → l < n → V k < V l) → asc (lst V P n)
  | 0, _ => by simp [lst, asc]
  | n + 1, h => by
    refine List.pairwise_append.2 ⟨lst_asc fun k l a b => h k l a (by omega), by simp, fun x hx y hy => ?_⟩
    obtain ⟨k, hk, rfl⟩ := lst_mem.1 hx
    obtain rfl := List.mem_singleton.1 hy
    exact h k n hk (by omega)
/-- sorted and distinct: ascending -/
theorem sorted_asc {V P V' P' : Nat → Int} {n : Nat} (h : (lst V' P' n).Perm (lst V P n)) (hd : dist V n) (hu : upTo V' n) : asc (lst V' P' n) :=
  lst_asc fun k l a b => by
    have h1 := hu k l a b
    have h2 := dist_perm h hd l k a b
    omega
theorem asc_dist {V P : Nat → Int} {n : Nat} (h : asc (lst V P n)) : ∀ k l, k < l → l < n → V k < V l := by
  intro k l a b
  have := List.pairwise_iff_getElem.1 h k l (by rw [lst_length]; omega) (by rw [lst_length]; omega) a
  have e1 := lst_get V P (n := n) (i := k) (by omega)
  have e2 := lst_get V P (n := n) (i := l) b
  rw [List.getElem?_eq_getElem (by rw [lst_length]; omega)] at e1 e2
  rw [Option.some.inj e1, Option.some.inj e2] at this
  exact this
end Go.VM

/- How values at 0 and 1001 tell the order. -/
namespace Go.VM
set_option linter.unusedVariables false
set_option linter.unusedSimpArgs false

/-- the assignment of one choice: variable U j has the number w j -/
def pickF (U w : Nat → Int) : Nat → Int → Int
  | 0, _ => 0
  | j + 1, v => if v = U j then w j else pickF U w j v
theorem pickF_at {U w : Nat → Int} : ∀ {m : Nat}, dist U m → ∀ j, j < m → pickF U w m (U j) = w j
  | m + 1, hd, j, hj => by
    unfold pickF
    by_cases e : j = m
    · subst e; rw [if_pos rfl]
    · rw [if_neg fun h => hd m j (by omega) (by omega) h]
      exact pickF_at (fun i k a b => hd i k a (by omega)) j (by omega)
theorem pickF_ge {U w : Nat → Int} (h : ∀ j, 0 ≤ w j) : ∀ (m : Nat) (v : Int), 0 ≤ pickF U w m v
  | 0, _ => Int.le_refl _
  | m + 1, v => by unfold pickF; split; exact h m; exact pickF_ge h m v
theorem pickF_le {U w : Nat → Int} {b : Int} (hb : 0 ≤ b) (h : ∀ j, w j ≤ b) : ∀ (m : Nat) (v : Int), pickF U w m v ≤ b
  | 0, _ => hb
  | m + 1, v => by unfold pickF; split; exact h m; exact pickF_le hb h m v
theorem evV_congr {V P : Nat → Int} {x y : Int → Int} {c : Int} : ∀ {n : Nat}, (∀ i, i < n → x (V i) = y (V i)) → evV V P x c n = evV V P y c n
  | 0, _ => rfl
  | n + 1, h => by unfold evV; rw [evV_congr (n := n) fun i hi => h i (by omega), h n (by omega)]
/-- the numbers of choice p -/
def wP (p : Nat) (j : Nat) : Int := ((p / 2 ^ j % 2 : Nat) : Int) * 1001
theorem wP_range (p j : Nat) : 0 ≤ wP p j ∧ wP p j ≤ 1001 := by unfold wP; omega
theorem wP_zero (j : Nat) : wP 0 j = 0 := by unfold wP; simp
theorem wP_one : ∀ j, j < 5 → ∀ k, k < 5 → wP (2 ^ j) k = if k = j then 1001 else 0 := by decide

theorem tells {c c' : Int} {n n' : Nat} {V P V' P' U : Nat → Int} {m : Nat} (ha : ValidP c n V P) (hb : ValidP c' n' V' P') (hm : m ≤ 5) (hd : dist U m)
    (h1 : ∀ i, i < n → ∃ j, j < m ∧ U j = V i) (h2 : ∀ i, i < n' → ∃ j, j < m ∧ U j = V' i) :
    (∀ p, p < 2 ^ m → evV V P (pickF U (wP p) m) c n ≤ evV V' P' (pickF U (wP p) m) c' n') ↔ LeqP c n V P c' n' V' P' := by
  refine ⟨fun h => ?_, fun h p _ => leq_ev _ (fun v => pickF_ge (fun j => (wP_range p j).1) m v) hb.1 h⟩
  refine leq_of_ev ha hb ?_ fun i hi => ?_
  · have := h 0 (Nat.pow_pos (by decide))
    rwa [evV_congr (V := V) (y := fun _ => 0) fun i hi => ?_, evV_congr (V := V') (y := fun _ => 0) fun i hi => ?_] at this
    · obtain ⟨j, hj, e⟩ := h2 i hi
      rw [← e, pickF_at hd j hj, wP_zero]
    · obtain ⟨j, hj, e⟩ := h1 i hi
      rw [← e, pickF_at hd j hj, wP_zero]
  · obtain ⟨j, hj, e⟩ := h1 i hi
    have key : ∀ k, k < m → wP (2 ^ j) k = if U k = V i then 1001 else 0 := fun k hk => by
      rw [wP_one j (by omega) k (by omega)]
      by_cases ek : k = j
      · subst ek; rw [if_pos rfl, if_pos e]
      · rw [if_neg ek, if_neg]
        intro e2
        rcases Nat.lt_or_gt_of_ne ek with hl | hl
        · exact hd j k hl hj (e2.trans e.symm)
        · exact hd k j hl hk (e.trans e2.symm)
    have := h (2 ^ j) (Nat.pow_lt_pow_right (by decide) hj)
    rwa [evV_congr (V := V) (y := fun v => if v = V i then 1001 else 0) fun k hk => ?_, evV_congr (V := V') (y := fun v => if v = V i then 1001 else 0) fun k hk => ?_] at this
    · obtain ⟨l, hl, el⟩ := h2 k hk
      rw [← el, pickF_at hd l hl, key l hl]
    · obtain ⟨l, hl, el⟩ := h1 k hk
      rw [← el, pickF_at hd l hl, key l hl]
end Go.VM

/- strings.Builder: what its methods do to the object that stands for it. -/
set_option linter.unusedSimpArgs false
set_option linter.unusedVariables false
set_option linter.unusedSectionVars false
namespace Go.VM
open Go Go.Proofs Go.Shelf

/-- all blocks but b and the row of v stand as they stood -/
structure Near (w w' : World) (b : Nat) (v : Value) : Prop where
  os : w'.os = w.os
  tape : w'.tape = w.tape
  output : w'.output = w.output
  size : w.heap.size ≤ w'.heap.size
  block : ∀ k, k < w.heap.size → k ≠ b → (∀ n q, v ≠ .slice (some ⟨k, 0, none⟩) n q) → w'.heap[k]? = w.heap[k]?

theorem Near.trans {w w1 w2 : World} {b : Nat} {v : Value} (h : Near w w1 b v) (k : Near w1 w2 b v) : Near w w2 b v :=
  ⟨k.os.trans h.os, k.tape.trans h.tape, k.output.trans h.output, Nat.le_trans h.size k.size, fun i hi hb hv => (k.block i (Nat.lt_of_lt_of_le hi h.size) hb hv).trans (h.block i hi hb hv)⟩
theorem Near.refl (w : World) (b : Nat) (v : Value) : Near w w b v := ⟨rfl, rfl, rfl, Nat.le_refl _, fun _ _ _ _ => rfl⟩
theorem Near.drew {w w' : World} {b : Nat} {v : Value} (h : Near w w' b v) : Near w w'.drew b v := ⟨h.os, h.tape, h.output, h.size, h.block⟩
theorem Near.alloc {w w' : World} {b : Nat} {v : Value} (h : Near w w' b v) (o : Obj) : Near w (w'.alloc o) b v :=
  h.trans ⟨rfl, rfl, rfl, by simp, fun k hk _ _ => Go.RowKit.Below.heap_alloc _ _ _ hk⟩
theorem Near.setCell {w w' : World} {b : Nat} {v : Value} (h : Near w w' b v) (i : Nat) (u : Value) : Near w (w'.setCell ⟨b, i, none⟩ u) b v :=
  h.trans ⟨rfl, rfl, rfl, by simp [World.setCell], fun k _ hk _ => Go.RowKit.Below.heap_setCell _ _ _ _ hk⟩

section
variable [Ops] [Glb] [Lim]
theorem bld_done {B : Gd} {ι : Nat → Option Nat} {I : Nat → Nat → Prop} {w w' : World} {c c' : ByteArray} {b : Nat} {p v p' v' : Value} (hrel : Rel B ι I w [.bld c]) (hi : ι 0 = some b)
    (hb : w.heap[b]? = some (.cells #[p, v] Glb.bt (0, 0))) (hn : Near w w' b v) (hb' : w'.heap[b]? = some (.cells #[p', v'] Glb.bt (0, 0)))
    (hp' : p' = .pointer none ∨ p' = .pointer (some ⟨b, 0, none⟩)) (hbuf' : BufOk B I w' b c' v') : Rel B ι I w' [.bld c'] ∧ Keep B w I ι [.bld c] w' I ι [.bld c'] := by
  obtain ⟨b0, p0, v0, q1, q2, q3, q4, q5, q6⟩ := hrel.obj 0 _ rfl
  obtain rfl : b = b0 := by rw [hi] at q1; exact Option.some.inj q1
  obtain ⟨rfl, rfl⟩ : p = p0 ∧ v = v0 := by
    rw [hb] at q3
    simpa using q3
  have hIb : ∀ a k, I a k → a ≠ b := fun a k h e => q5 k (e ▸ h)
  have hIg : ∀ a k, I a k → ∀ n q, v ≠ .slice (some ⟨a, 0, none⟩) n q := fun a k h n q e => by
    subst e
    rcases q6 with ⟨h1, _⟩ | ⟨g, cap, cur, fz, h1, _, _, h4, _⟩
    · cases h1
    · cases h1; exact h4 k h
  have hBb : ∀ a, B a → a ≠ b := fun a h e => q2 (e ▸ h)
  have hBg : ∀ a, B a → ∀ n q, v ≠ .slice (some ⟨a, 0, none⟩) n q := fun a h n q e => by
    subst e
    rcases q6 with ⟨h1, _⟩ | ⟨g, cap, cur, fz, h1, _, h3, _⟩
    · cases h1
    · cases h1; exact h3 h
  have hsame : Same I w w' := fun a k h => by
    unfold World.cell?
    rw [hn.block a (hrel.imm a k h) (hIb a k h) (hIg a k h)]
  have g : Goes w w' I I ι ι [.bld c] [.bld c'] := by
    refine ⟨hsame, fun _ _ h => h, Nat.le_refl _, fun o off len sz v ho _ n sz' get fz h _ => ?_, fun o x ho h hx => ?_, fun o n sz get fz ho h => ?_, fun o s p ho h => ?_⟩
    all_goals
      obtain rfl : o = 0 := by simpa using ho
      simp at h
    subst h
    exact ⟨⟨_, rfl, trivial⟩, rfl⟩
  refine ⟨⟨fun k hk => Nat.lt_of_lt_of_le (hrel.base k hk) hn.size, fun a k h => Nat.lt_of_lt_of_le (hrel.imm a k h) hn.size, hrel.low, g.glob hrel.glob, fun o x hx => ?_, fun o o' x x' a hx hx' _ _ _ _ => ?_⟩,
    ⟨⟨hn.os, hn.tape, hn.output, hn.size, fun k hk hB => hn.block k hk (hBb k hB) (hBg k hB)⟩, hsame, fun _ _ h => h, Nat.le_refl _, fun v x h => h.goes g⟩⟩
  · have ho := (List.getElem?_eq_some_iff.1 hx).1
    obtain rfl : o = 0 := by simpa using ho
    simp at hx
    subst hx
    exact ⟨b, p', v', hi, q2, hb', hp', q5, hbuf'⟩
  · have ho := (List.getElem?_eq_some_iff.1 hx).1
    have ho' := (List.getElem?_eq_some_iff.1 hx').1
    simp at ho ho'
    omega
end

variable {P : Program} {ρ : Ren}

theorem wpList_append_run {ops : Array Oper} {rest : List Oper} {o : Oper} {a : Act} {w : World} {Q : Exit → Act → World → Prop} (hgd : o.guard = none) (sl x : Operand) (t u : TypeId)
    (ho : o.op = .call { callee := .builtin .append, args := #[sl, x], argTypes := #[t, u] }) {v y v' : Value} {w' : World} (hs : a.eval sl = v) (hx : a.eval x = y) (hr : (Builtin.append_ #[t, u] o.type #[v, y]).run P w = .ok v' w')
    (h : wpList P ops Q rest (a.put o.dst v') w') : wpList P ops Q (o :: rest) a w := by
  refine wpList_plain hgd fun K hK => ?_
  unfold Oper.wp execOp
  simp only [ho, resolve, invoke, builtin, Sem.run_bind, Sem.run_pure, Result.andThen_ok, List.map_toArray, List.map_cons, List.map_nil, hs, hx, hr]
  exact hK _ _ h

theorem wpList_append_ex {ops : Array Oper} {rest : List Oper} {o : Oper} {a : Act} {w : World} {Q : Exit → Act → World → Prop} (hgd : o.guard = none) (sl x : Operand) (t u : TypeId)
    (ho : o.op = .call { callee := .builtin .append, args := #[sl, x], argTypes := #[t, u] }) {v y : Value} (hs : a.eval sl = v) (hx : a.eval x = y) {R : Value → World → Prop} (hr : ∃ v' w', (Builtin.append_ #[t, u] o.type #[v, y]).run P w = .ok v' w' ∧ R v' w')
    (h : ∀ v' w', R v' w' → wpList P ops Q rest (a.put o.dst v') w') : wpList P ops Q (o :: rest) a w := by
  obtain ⟨v', w', h1, h2⟩ := hr
  exact wpList_append_run hgd sl x t u ho hs hx h1 (h v' w' h2)

theorem calls_copyCheck (L : Lays.n240 P ρ) (X : Builder.X72 P ρ) {b : Nat} {p v : Value} {w : World} (hb : w.heap[b]? = some (.cells #[p, v] (ρ.t 72) (0, 0))) (hp : p = .pointer none ∨ p = .pointer (some ⟨b, 0, none⟩)) :
    Calls P (ρ.f 240) #[.pointer (some ⟨b, 0, none⟩)] w fun e w' => e = .returned (.tuple #[]) ∧ w'.heap[b]? = some (.cells #[.pointer (some ⟨b, 0, none⟩), v] (ρ.t 72) (0, 0)) ∧ Near w w' b v ∧ w'.heap.size = w.heap.size ∧ (∀ k, k ≠ b → w'.heap[k]? = w.heap[k]?) := by
  have c0 : w.cell? ⟨b, 0, none⟩ = some p := by rw [Lib.cell_of_heap hb]; rfl
  rcases hp with rfl | rfl
  · refine (Any.Builder_copyCheck_fresh L X b w c0 (by simp [World.shape?, hb]) (Lib.frozen_of_heap hb 0)).mono ?_
    rintro e w' ⟨rfl, rfl⟩
    refine ⟨rfl, ?_, (Near.refl w b v).setCell 0 _, by simp [World.setCell], fun k hk => Go.RowKit.Below.heap_setCell _ _ _ _ hk⟩
    simp [World.setCell, Array.getElem?_modify, hb]
  · refine (Any.Builder_copyCheck_used L X b w c0).mono ?_
    rintro e w' ⟨rfl, rfl⟩
    exact ⟨rfl, hb, .refl _ _ _, rfl, fun _ _ => rfl⟩

theorem getElem?_of_getD {vs : Array Value} {k : Nat} {x : Value} (hk : k < vs.size) (h : vs.getD k undef = x) : vs[k]? = some x := by
  rw [Array.getD_eq_getD_getElem?] at h
  rw [Array.getElem?_eq_getElem hk] at h ⊢
  exact congrArg some h
theorem getD_of_getElem? {vs : Array Value} {k : Nat} {x : Value} (h : vs[k]? = some x) : vs.getD k undef = x := by
  rw [Array.getD_eq_getD_getElem?, h]; rfl
theorem cat_get {c s : ByteArray} {k : Nat} {x : UInt8} (h : (c ++ s).data.toList[k]? = some x) : (k < c.size ∧ c.data.toList[k]? = some x) ∨ (c.size ≤ k ∧ s.data.toList[k - c.size]? = some x) := by
  have e : (c ++ s).data.toList = c.data.toList ++ s.data.toList := by simp [ByteArray.data_append]
  rw [e, List.getElem?_append] at h
  have e2 : c.data.toList.length = c.size := Array.length_toList
  rw [e2] at h
  split at h
  · exact .inl ⟨‹_›, h⟩
  · exact .inr ⟨by omega, h⟩

section
variable [Ops] [Glb] [Lim]
set_option maxHeartbeats 1000000 in
/-- what is appended to a builder's slice of bytes -/
theorem append_buf {t t2 ty e : TypeId} {i : TypeInfo} (ht : P.underlying t = some (.slice e)) (ht2 : P.underlying t2 = some .string ∨ ∃ e', P.underlying t2 = some (.slice e')) (hi : P.info? e = some i) (hz : i.zero = some (.int .u8 0))
    (hs1 : i.size = 1) (hby : i.bytes = 1) (he : e = Glb.u8) {B : Gd} {I : Nat → Nat → Prop} {w : World} {b : Nat} {c : ByteArray} {v : Value} (hbuf : BufOk B I w b c v) (hB : ∀ k, B k → k < w.heap.size) (hI : ∀ k q, I k q → k < w.heap.size)
    (hbl : b < w.heap.size) (s : ByteArray) {y : Value} {news : Array Value} (hx : Src P w y s.size 1 news) (hnews : ∀ (k : Nat) (x : UInt8), s.data.toList[k]? = some x → news[k]? = some (.int .u8 x.toNat)) (h1 : ∀ x ∈ news.toList, x.oneCell' = true) (hlim : c.size + s.size ≤ 140737488355328) :
    ∃ v' w', (Builtin.append_ #[t, t2] ty #[v, y]).run P w = .ok v' w' ∧ BufOk B I w' b (c ++ s) v' ∧ Near w w' b v ∧ w'.heap[b]? = w.heap[b]? := by
  subst he
  have hlen : ∀ x : ByteArray, x.data.toList.length = x.size := fun x => Array.length_toList
  have hcs : (c ++ s).size = c.size + s.size := ByteArray.size_append
  have hnsz : news.size = s.size := by simpa using hx.size
  have hx : Src P w y s.size i.size news := by rw [hs1]; exact hx
  have hzz : (Value.int .u8 0).cells.size = 1 := rfl
  -- a row of its own, in a new block
  have grow : ∀ (base : Option Addr) (sCap : Nat) (olds : Array Value), v = .slice base c.size sCap → sCap < c.size + s.size → Src P w (.slice base c.size sCap) c.size i.size olds →
      (∀ (k : Nat) (x : UInt8), c.data.toList[k]? = some x → olds[k]? = some (.int .u8 x.toNat)) → s.size ≠ 0 →
      ∃ v' w', (Builtin.append_ #[t, t2] ty #[v, y]).run P w = .ok v' w' ∧ BufOk B I w' b (c ++ s) v' ∧ Near w w' b v ∧ w'.heap[b]? = w.heap[b]? := by
    intro base sCap olds hv hcap hsrc holds hs0
    obtain ⟨cp, hc1, hrun⟩ := run_append_grows (P := P) (w := w) (ty := ty) ht ht2 hi hz hx hsrc hcap (by omega) (by rw [hby]; omega)
    have hosz : olds.size = c.size := by have := hsrc.size; rw [hs1] at this; simpa using this
    subst hv
    have hnew := heap_alloc_new w.drew (.cells (olds ++ news ++ Builtin.zeroCells (Value.int .u8 0).cells (cp - (c.size + s.size))) Glb.u8)
    have hold : ∀ k, k < w.heap.size → (w.drew.alloc (.cells (olds ++ news ++ Builtin.zeroCells (Value.int .u8 0).cells (cp - (c.size + s.size))) Glb.u8)).heap[k]? = w.heap[k]? := fun k hk => Go.RowKit.Below.heap_alloc w.drew _ k hk
    refine ⟨_, _, hrun, .inr ⟨w.heap.size, cp, _, _, by rw [hcs], by omega, fun h => Nat.lt_irrefl _ (hB _ h), fun k h => Nat.lt_irrefl _ (hI _ _ h), by omega, hnew, Nat.zero_le _, by omega, ?_, by omega, fun k x hk => ?_⟩,
      ((Near.refl w b _).drew).alloc _, hold b hbl⟩
    · simp only [Array.size_append, zeroCells_size, hzz, hosz, hnsz]; omega
    · rcases cat_get hk with ⟨hlt, hk⟩ | ⟨hle, hk⟩
      · rw [Array.getElem?_append, if_pos (by simp only [Array.size_append]; omega), Array.getElem?_append, if_pos (by omega)]
        exact holds k x hk
      · have h2 := hnews _ x hk
        have hlt2 : k - c.size < news.size := (Array.getElem?_eq_some_iff.1 h2).1
        rw [Array.getElem?_append, if_pos (by simp only [Array.size_append]; omega), Array.getElem?_append, if_neg (by omega), hosz]
        exact h2
  rcases hbuf with ⟨rfl, hc0⟩ | ⟨g, cap, cur, fz, rfl, q2, q3, q4, q5, q6, q7, q8, q9, q10, q11⟩
  · by_cases hs0 : s.size = 0
    · have hrun := run_append_none (P := P) (w := w) (ty := ty) ht ht2 hi hx (sLen := 0) (sCap := 0) (by omega)
      refine ⟨.slice none 0 0, w, by rw [hs0] at hrun; exact hrun, .inl ⟨rfl, by omega⟩, .refl _ _ _, rfl⟩
    · refine grow none 0 #[] (by rw [hc0]) (by omega) ⟨fun _ => by rw [hc0]; rfl, fun _ _ => by rw [hc0]; simp [Builtin.firstCells], by rw [hc0]; simp⟩ (fun k x hk => ?_) hs0
      have := (List.getElem?_eq_some_iff.1 hk).1
      rw [hlen] at this; omega
  · have hcell : ∀ k, k < cap → w.cell? ⟨g, k, none⟩ = some (cur.getD k undef) := fun k hk => cell_of_block q6 (by omega)
    by_cases hfit : c.size + s.size ≤ cap
    · have hrun := run_append_fits (P := P) (w := w) (ty := ty) ht ht2 hi hx (b := g) (o := 0) (sLen := c.size) (sCap := cap) hfit (fun j hj => by rw [hs1, hcell _ (by omega)]; rfl) (fun j hj => by
        obtain ⟨lo, hi'⟩ := fz
        simp only [World.frozen?, q6, hs1, Bool.and_eq_false_iff, decide_eq_false_iff_not]
        right; simp only at q7; omega) h1
      rw [hs1] at hrun
      obtain ⟨vs', p1, p2, p3⟩ := setCells_heap g news.toList (0 + c.size * 1) w cur _ fz q6 (by simp; omega)
      have hb0 := setCells_below (B := fun _ => False) g (fun h => h) news.toList (0 + c.size * 1) w
      refine ⟨_, _, hrun, .inr ⟨g, cap, vs', fz, by rw [hcs], q2, q3, q4, by omega, p1, by omega, by omega, by omega, by omega, fun k x hk => ?_⟩, ⟨hb0.os, hb0.tape, hb0.output, hb0.size, fun k hk hkb hv => setCells_other _ _ _ _ _ (fun e => hv c.size cap (by rw [e]))⟩, setCells_other _ _ _ _ _ (Ne.symm q2)⟩
      rcases cat_get hk with ⟨hlt, hk⟩ | ⟨hle, hk⟩
      · refine getElem?_of_getD (by omega) ?_
        rw [p3, if_neg (by omega)]
        exact getD_of_getElem? (q11 k x hk)
      · have h2 := hnews _ x hk
        have hlt2 : k - c.size < news.size := (Array.getElem?_eq_some_iff.1 h2).1
        refine getElem?_of_getD (by omega) ?_
        rw [p3, if_pos (by simp; omega)]
        have e : k - (0 + c.size * 1) = k - c.size := by omega
        rw [e, List.getD_eq_getElem?_getD, Array.getElem?_toList, h2]; rfl
    · have hfirst : ∀ w', w'.heap = w.heap → (Builtin.firstCells i.size c.size (.slice (some ⟨g, 0, none⟩) c.size cap)).run P w' = .ok ((List.range (c.size * 1)).map fun k => cur.getD k undef).toArray w' := fun w' hw => by
        rw [hs1]
        refine run_firstCells_some (P := P) w' 1 c.size ⟨g, 0, none⟩ c.size cap ((List.range (c.size * 1)).map fun k => cur.getD k undef) (by simp) (fun j u hj => ?_)
        have hj2 : j < c.size := by have := (List.getElem?_eq_some_iff.1 hj).1; simpa using this
        simp [hj2] at hj
        subst hj
        have e : ((⟨g, 0, none⟩ : Addr).add j) = ⟨g, j, none⟩ := by unfold Addr.add; split <;> simp_all
        rw [e]
        have := hcell j (by omega)
        unfold World.cell? at this ⊢
        rw [hw]
        simpa [Array.getD_eq_getD_getElem?] using this
      refine grow (some ⟨g, 0, none⟩) cap _ rfl (by omega) ⟨fun _ => rfl, hfirst, by simp [hs1]⟩ (fun k x hk => ?_) (by omega)
      have hlt : k < c.size := by have := (List.getElem?_eq_some_iff.1 hk).1; rwa [hlen] at this
      have := getD_of_getElem? (q11 k x hk)
      simp [hlt]
      simpa [Array.getD_eq_getD_getElem?] using this
end

theorem src_str {w : World} (s : ByteArray) : Src P w (.string s) s.size 1 (Lib.strCells s).toArray ∧ (∀ (k : Nat) (x : UInt8), s.data.toList[k]? = some x → (Lib.strCells s).toArray[k]? = some (.int .u8 x.toNat)) ∧ ∀ x ∈ (Lib.strCells s).toArray.toList, x.oneCell' = true :=
  ⟨⟨fun _ => rfl, fun w' _ => Lib.run_firstCells_string w' 1 s, by simp [Lib.strCells_length]⟩, fun k x hk => by
    rw [List.getElem?_toArray]
    unfold Lib.strCells
    rw [List.getElem?_map, hk]; rfl, by simpa using Lib.strCells_oneCell s⟩

theorem src_one {w : World} {g : Nat} {u : Value} {t : TypeId} {fr : Nat × Nat} (hg : w.heap[g]? = some (.cells #[u] t fr)) : Src P w (.slice (some ⟨g, 0, none⟩) 1 1) 1 1 #[u] := by
  refine ⟨fun _ => rfl, fun w' hw => ?_, rfl⟩
  refine run_firstCells_some (P := P) w' 1 1 ⟨g, 0, none⟩ 1 1 [u] rfl (fun j v hj => ?_)
  have hj2 : j < 1 := by have := (List.getElem?_eq_some_iff.1 hj).1; simpa using this
  obtain rfl : j = 0 := by omega
  have e : ((⟨g, 0, none⟩ : Addr).add 0) = ⟨g, 0, none⟩ := rfl
  rw [e]
  unfold World.cell?
  rw [hw, hg]
  simpa using hj

section
variable [Glb]
/-- an entry into a builder's method -/
theorem bld_enter [Ops] [Lim] {B : Gd} {ι : Nat → Option Nat} {I : Nat → Nat → Prop} {w : World} {c : ByteArray} {v0 : Value} (hrel : Rel B ι I w [.bld c]) (h : RepA w I ι [.bld c] v0 (.ptr 0 0)) :
    ∃ b p v, v0 = .pointer (some ⟨b, 0, none⟩) ∧ ι 0 = some b ∧ w.heap[b]? = some (.cells #[p, v] Glb.bt (0, 0)) ∧ (p = .pointer none ∨ p = .pointer (some ⟨b, 0, none⟩)) ∧ BufOk B I w b c v := by
  cases h with | ptr _ _ _ ho hq hv =>
  obtain ⟨b, q1, rfl⟩ := hq _ rfl trivial
  obtain ⟨b0, p0, v0, k1, k2, k3, k4, k5, k6⟩ := hrel.obj 0 _ rfl
  obtain rfl : b = b0 := by rw [q1] at k1; exact Option.some.inj k1
  exact ⟨b, p0, v0, rfl, q1, k3, k4, k6⟩

theorem bld_fin [Ops] [Lim] {B : Gd} {ι : Nat → Option Nat} {I : Nat → Nat → Prop} {w w' : World} {c c' : ByteArray} {b : Nat} {p v v' : Value} (hrel : Rel B ι I w [.bld c]) (hi : ι 0 = some b)
    (hb : w.heap[b]? = some (.cells #[p, v] Glb.bt (0, 0))) (hn : Near w w' b v) (hb' : w'.heap[b]? = some (.cells #[.pointer (some ⟨b, 0, none⟩), v] Glb.bt (0, 0)))
    (hbuf' : BufOk B I w' b c' v') : Rel B ι I (w'.setCell ⟨b, 1, none⟩ v') [.bld c'] ∧ Keep B w I ι [.bld c] (w'.setCell ⟨b, 1, none⟩ v') I ι [.bld c'] := by
  refine bld_done (p' := .pointer (some ⟨b, 0, none⟩)) (v' := v') hrel hi hb (hn.setCell 1 v') ?_ (.inr rfl) ?_
  · simp [World.setCell, Array.getElem?_modify, hb']
  · rcases hbuf' with h | ⟨g, cap, cur, fz, q1, q2, q3, q4, q5, q6, q7⟩
    · exact .inl h
    · exact .inr ⟨g, cap, cur, fz, q1, q2, q3, q4, q5, (Go.RowKit.Below.heap_setCell _ _ _ _ q2).trans q6, q7⟩

theorem tup2 {w : World} {I : Nat → Nat → Prop} {ι : Nat → Option Nat} {H : AHeap} {v1 v2 : Value} {x1 x2 : D} (h1 : RepD w I v1 x1) (h2 : RepD w I v2 x2) : RepA w I ι H (.tuple #[v1, v2]) (.tup [.d x1, .d x2]) := by
  refine .tup [v1, v2] _ rfl fun k hk => ?_
  match k, hk with
  | 0, _ => exact .d _ _ h1
  | 1, _ => exact .d _ _ h2

set_option maxHeartbeats 2000000 in
set_option maxRecDepth 100000 in
/-- (*strings.Builder).WriteString -/
theorem vc_WriteString (L : Lays.n166 P ρ) (X : Builder.Extra P ρ) (hbt : Glb.bt = ρ.t 72) (hu8 : Glb.u8 = ρ.t 5) (c s : ByteArray) (hlim : c.size + s.size ≤ 140737488355328) :
    VCalls P (ρ.f 166) [.ptr 0 0, .d (.str s)] [.bld c] (fun r H' => r = .tup [.d (.int .i64 s.size), .d .nili] ∧ H' = [.bld (c ++ s)]) := by
  refine Ops.exists_one.elim fun inst => ?_
  intro lim B ι I w vs hrel hargs
  obtain ⟨hl, hk⟩ := hargs
  match vs, hl with
  | [a0, a1], _ =>
  have h0 := hk 0 (by simp)
  have h1 := hk 1 (by simp)
  simp only [List.getD_cons_zero, List.getD_cons_succ] at h0 h1
  cases h1 with | d _ _ h1 =>
  cases h1
  obtain ⟨b, p, v, rfl, hib, hb, hp, hbuf⟩ := bld_enter hrel h0
  have hbtw := hb
  rw [hbt] at hbtw
  obtain ⟨i0, hi, hz0, hz1, hz2⟩ := info_parts X.infoByte
  have mixed := L.mixed
  have t72 := L.t72; have a72 := L.a72; have z72 := L.z72; have v72 := L.v72; have u72 := run_underlying L.t72
  have t70 := L.t70; have a70 := L.a70; have z70 := L.z70; have v70 := L.v70; have u70 := run_underlying L.t70
  have t37 := L.t37; have a37 := L.a37; have z37 := L.z37; have v37 := L.v37; have u37 := run_underlying L.t37
  have t3 := L.t3; have a3 := L.a3; have z3 := L.z3; have v3 := L.v3; have u3 := run_underlying L.t3
  have t9 := L.t9; have a9 := L.a9; have z9 := L.z9; have v9 := L.v9; have u9 := run_underlying L.t9
  have t4 := L.t4; have a4 := L.a4; have z4 := L.z4; have v4 := L.v4; have u4 := run_underlying L.t4
  have t164 := L.t164; have a164 := L.a164; have z164 := L.z164; have v164 := L.v164; have u164 := run_underlying L.t164
  have t5 := X.t5; have a5 := X.a5; have z5 := X.z5; have v5 := X.v5; have u5 := run_underlying X.t5
  have e240 : ∀ args w, (callFunc (ρ.f 240) args).run P w = .ok (.enter (ρ.f 240) args) w := enters_of L.f240 (by kernel_rfl) rfl
  go_enter L.f166, Body.n166_ntmps ρ
  go_wp2_with (go_at_fn (ρ.f 240); refine (calls_copyCheck { L with } X.toX72 hbtw hp).mono ?_)
  rintro e w1 ⟨rfl, hb1, hn1, hs1, hk1⟩
  have hlt : b < w.heap.size := lt_of_heap hb
  have hbuf1 : BufOk B I w1 b c v := by
    rcases hbuf with h | ⟨g, cap, cur, fz, q1, q2, q3, q4, q5, q6, q7⟩
    · exact .inl h
    · exact .inr ⟨g, cap, cur, fz, q1, q2, q3, q4, q5, (hk1 g q2).trans q6, q7⟩
  obtain ⟨sr1, sr2, sr3⟩ := src_str (P := P) (w := w1) s
  obtain ⟨v', w2, hrun, hbuf2, hn2, hb2⟩ := append_buf (P := P) (ty := ρ.t 37) (t := ρ.t 37) (t2 := ρ.t 9) L.t37 (.inl L.t9) hi hz0 hz1 hz2 hu8.symm hbuf1 (fun k hk => by rw [hs1]; exact hrel.base k hk) (fun k q hk => by rw [hs1]; exact hrel.imm k q hk) (by omega) s sr1 sr2 sr3 hlim
  rw [hb1] at hb2
  have c0 : w1.cell? ⟨b, 0, none⟩ = some (.pointer (some ⟨b, 0, none⟩)) := by rw [Lib.cell_of_heap hb1]; rfl
  have c1 : w1.cell? ⟨b, 1, none⟩ = some v := by rw [Lib.cell_of_heap hb1]; rfl
  have d0 : w2.cell? ⟨b, 0, none⟩ = some (.pointer (some ⟨b, 0, none⟩)) := by rw [Lib.cell_of_heap hb2]; rfl
  have d1 : w2.cell? ⟨b, 1, none⟩ = some v := by rw [Lib.cell_of_heap hb2]; rfl
  have f1 : w2.frozen? ⟨b, 1, none⟩ = false := Lib.frozen_of_heap hb2 1
  obtain ⟨ao, n', cp, rfl⟩ : ∃ ao n' cp, v' = .slice ao n' cp := by
    rcases hbuf2 with h | ⟨g, cap, cur, fz, h, h2⟩
    · exact ⟨_, _, _, h.1⟩
    · exact ⟨_, _, _, h⟩
  go_wp2_with (at_builtin; refine wpList_append_run rfl _ _ (ρ.t 37) (ρ.t 9) rfl rfl rfl hrun ?_)
  go_ret2
  obtain ⟨f1, f2⟩ := bld_fin hrel hib hb (hn1.trans hn2) (by rw [hbt]; exact hb2) hbuf2
  exact ⟨_, _, _, ι, I, rfl, ⟨rfl, rfl⟩, f1, tup2 (.int _ _) .nili, f2⟩

set_option maxHeartbeats 2000000 in
set_option maxRecDepth 100000 in
/-- (*strings.Builder).WriteByte -/
theorem vc_WriteByte (L : Lays.n167 P ρ) (X : Builder.Extra P ρ) (hbt : Glb.bt = ρ.t 72) (hu8 : Glb.u8 = ρ.t 5) (c : ByteArray) (x : UInt8) (n : Int) (hx : n = x.toNat) (hlim : c.size + 1 ≤ 140737488355328) :
    VCalls P (ρ.f 167) [.ptr 0 0, .d (.int .u8 n)] [.bld c] (fun r H' => r = .d .nili ∧ H' = [.bld (c ++ ⟨#[x]⟩)]) := by
  refine Ops.exists_one.elim fun inst => ?_
  intro lim B ι I w vs hrel hargs
  obtain ⟨hl, hk⟩ := hargs
  match vs, hl with
  | [a0, a1], _ =>
  have h0 := hk 0 (by simp)
  have h1 := hk 1 (by simp)
  simp only [List.getD_cons_zero, List.getD_cons_succ] at h0 h1
  cases h1 with | d _ _ h1 =>
  cases h1
  subst hx
  obtain ⟨b, p, v, rfl, hib, hb, hp, hbuf⟩ := bld_enter hrel h0
  have hbtw := hb
  rw [hbt] at hbtw
  obtain ⟨i0, hi, hz0, hz1, hz2⟩ := info_parts X.infoByte
  have mixed := L.mixed
  have t72 := L.t72; have a72 := L.a72; have z72 := L.z72; have v72 := L.v72; have u72 := run_underlying L.t72
  have t70 := L.t70; have a70 := L.a70; have z70 := L.z70; have v70 := L.v70; have u70 := run_underlying L.t70
  have t5 := L.t5; have a5 := L.a5; have z5 := L.z5; have v5 := L.v5; have u5 := run_underlying L.t5
  have t37 := L.t37; have a37 := L.a37; have z37 := L.z37; have v37 := L.v37; have u37 := run_underlying L.t37
  have t9 := L.t9; have a9 := L.a9; have z9 := L.z9; have v9 := L.v9; have u9 := run_underlying L.t9
  have t4 := L.t4; have a4 := L.a4; have z4 := L.z4; have v4 := L.v4; have u4 := run_underlying L.t4
  have t164 := L.t164; have a164 := L.a164; have z164 := L.z164; have v164 := L.v164; have u164 := run_underlying L.t164
  have e240 : ∀ args w, (callFunc (ρ.f 240) args).run P w = .ok (.enter (ρ.f 240) args) w := enters_of L.f240 (by kernel_rfl) rfl
  go_enter L.f167, Body.n167_ntmps ρ
  go_wp2_with (go_at_fn (ρ.f 240); refine (calls_copyCheck { L with } X.toX72 hbtw hp).mono ?_)
  rintro e w1 ⟨rfl, hb1, hn1, hs1, hk1⟩
  have hlt : b < w.heap.size := lt_of_heap hb
  have c0 : w1.cell? ⟨b, 0, none⟩ = some (.pointer (some ⟨b, 0, none⟩)) := by rw [Lib.cell_of_heap hb1]; rfl
  have c1 : w1.cell? ⟨b, 1, none⟩ = some v := by rw [Lib.cell_of_heap hb1]; rfl
  have hbuf1 : ∀ o : Obj, BufOk B I (w1.alloc o) b c v := fun o => by
    rcases hbuf with h | ⟨g, cap, cur, fz, q1, q2, q3, q4, q5, q6, q7⟩
    · exact .inl h
    · exact .inr ⟨g, cap, cur, fz, q1, q2, q3, q4, q5, (Go.RowKit.Below.heap_alloc w1 o g (by rw [hs1]; exact lt_of_heap q6)).trans ((hk1 g q2).trans q6), q7⟩
  have hsz : ∀ o : Obj, (w1.alloc o).heap.size = w.heap.size + 1 := fun o => by rw [← hs1]; simp
  go_wp2_with (at_builtin; refine wpList_append_ex rfl _ _ (ρ.t 37) (ρ.t 37) rfl rfl rfl (append_buf (P := P) L.t37 (.inr ⟨_, L.t37⟩) hi hz0 hz1 hz2 hu8.symm (hbuf1 _) (fun k hk => by rw [hsz]; have := hrel.base k hk; omega) (fun k q hk => by rw [hsz]; have := hrel.imm k q hk; omega) (by rw [hsz]; omega) ⟨#[x]⟩ (news := #[.int .u8 x.toNat]) ?c1 ?c2 ?c3 ?c4) ?_)
  case c1 => exact src_one (by rw [← hs1]; exact heap_alloc_new _ _)
  case c2 => intro k y hk; match k, hk with | 0, hk => simp at hk; subst hk; rfl
  case c3 => rfl
  case c4 => exact hlim
  intro v' w2 hbuf2 hn2 hb2
  rw [← Array.getElem?_eq_getElem] at hb2
  rw [Go.RowKit.Below.heap_alloc _ _ _ (by omega), hb1] at hb2
  have d0 : w2.cell? ⟨b, 0, none⟩ = some (.pointer (some ⟨b, 0, none⟩)) := by rw [Lib.cell_of_heap hb2]; rfl
  have d1 : w2.cell? ⟨b, 1, none⟩ = some v := by rw [Lib.cell_of_heap hb2]; rfl
  have f1 : w2.frozen? ⟨b, 1, none⟩ = false := Lib.frozen_of_heap hb2 1
  obtain ⟨ao, n', cp, rfl⟩ : ∃ ao n' cp, v' = .slice ao n' cp := by
    rcases hbuf2 with h | ⟨g, cap, cur, fz, h, h2⟩
    · exact ⟨_, _, _, h.1⟩
    · exact ⟨_, _, _, h⟩
  go_wp2
  go_ret
  obtain ⟨f1, f2⟩ := bld_fin hrel hib hb ((hn1.alloc _).trans hn2) (by rw [hbt]; exact hb2) hbuf2
  exact ⟨_, _, _, ι, I, rfl, ⟨rfl, rfl⟩, f1, .d _ _ .nili, f2⟩

set_option maxHeartbeats 2000000 in
set_option maxRecDepth 100000 in
/-- (*strings.Builder).Len -/
theorem vc_Len (L : Lays.n170 P ρ) (hbt : Glb.bt = ρ.t 72) (c : ByteArray) :
    VCalls P (ρ.f 170) [.ptr 0 0] [.bld c] (fun r H' => r = .d (.int .i64 c.size) ∧ H' = [.bld c]) := by
  refine Ops.exists_one.elim fun inst => ?_
  intro lim B ι I w vs hrel hargs
  obtain ⟨hl, hk⟩ := hargs
  match vs, hl with
  | [a0], _ =>
  have h0 := hk 0 (by simp)
  simp only [List.getD_cons_zero] at h0
  obtain ⟨b, p, v, rfl, hib, hb, hp, hbuf⟩ := bld_enter hrel h0
  obtain ⟨ao, cp, rfl⟩ : ∃ ao cp, v = .slice ao c.size cp := by
    rcases hbuf with h | ⟨g, cap, cur, fz, h, h2⟩
    · exact ⟨none, 0, by rw [h.2]; exact h.1⟩
    · exact ⟨_, _, h⟩
  have c1 : w.drew.cell? ⟨b, 1, none⟩ = some (.slice ao c.size cp) := by
    have hb' : w.drew.heap[b]? = some (.cells #[p, .slice ao c.size cp] Glb.bt (0, 0)) := hb
    rw [Lib.cell_of_heap hb']; rfl
  have c2 : w.cell? ⟨b, 1, none⟩ = some (.slice ao c.size cp) := c1
  have mixed := L.mixed
  have t72 := L.t72; have a72 := L.a72; have z72 := L.z72; have v72 := L.v72; have u72 := run_underlying L.t72
  have t70 := L.t70; have a70 := L.a70; have z70 := L.z70; have v70 := L.v70; have u70 := run_underlying L.t70
  have t37 := L.t37; have a37 := L.a37; have z37 := L.z37; have v37 := L.v37; have u37 := run_underlying L.t37
  have t3 := L.t3; have a3 := L.a3; have z3 := L.z3; have v3 := L.v3; have u3 := run_underlying L.t3
  go_enter L.f170, Body.n170_ntmps ρ
  go_wp2
  go_ret
  exact ⟨_, _, _, ι, I, rfl, ⟨rfl, rfl⟩, hrel, .d _ _ (.int _ _), ⟨.refl _ _, fun _ _ _ => rfl, fun _ _ h => h, Nat.le_refl _, fun _ _ h => h⟩⟩

theorem bld_froze [Ops] [Lim] {B : Gd} {ι : Nat → Option Nat} {I : Nat → Nat → Prop} {w : World} {c : ByteArray} {b g cap : Nat} {p : Value} {cur : Array Value} {fz : Nat × Nat} (hrel : Rel B ι I w [.bld c]) (hi : ι 0 = some b)
    (hb : w.heap[b]? = some (.cells #[p, .slice (some ⟨g, 0, none⟩) c.size cap] Glb.bt (0, 0))) (hp : p = .pointer none ∨ p = .pointer (some ⟨b, 0, none⟩))
    (q2 : g ≠ b) (q3 : ¬ B g) (q4 : ∀ k, ¬ I g k) (q5 : c.size ≠ 0) (q6 : w.heap[g]? = some (.cells cur Glb.u8 fz)) (q7 : fz.2 ≤ c.size) (q8 : c.size ≤ cap) (q9 : cap ≤ cur.size) (q10 : c.size ≤ 140737488355328)
    (q11 : ∀ (k : Nat) (x : UInt8), c.data.toList[k]? = some x → cur[k]? = some (Value.int .u8 x.toNat)) :
    Rel B ι I (w.drew.freeze ⟨g, 0, none⟩ c.size) [.bld c] ∧ Keep B w I ι [.bld c] (w.drew.freeze ⟨g, 0, none⟩ c.size) I ι [.bld c] := by
  have hother : ∀ k, k ≠ g → (w.drew.freeze ⟨g, 0, none⟩ c.size).heap[k]? = w.heap[k]? := fun k hk => by
    unfold World.freeze
    rw [if_neg q5]
    simp only [Array.getElem?_modify]
    rw [if_neg (fun e => hk e.symm)]
    rfl
  refine bld_done hrel hi hb ⟨?_, ?_, ?_, ?_, fun k _ _ hv => hother k (fun e => hv c.size cap (by rw [e]))⟩ ((hother b (Ne.symm q2)).trans hb) hp (.inr ⟨g, cap, cur, if fz.1 == fz.2 then (0, 0 + c.size) else (min fz.1 0, max fz.2 (0 + c.size)), rfl, q2, q3, q4, q5, ?_, ?_, q8, q9, q10, q11⟩)
  · unfold World.freeze; rw [if_neg q5]; rfl
  · unfold World.freeze; rw [if_neg q5]; rfl
  · unfold World.freeze; rw [if_neg q5]; rfl
  · unfold World.freeze; rw [if_neg q5]; simp
  · unfold World.freeze
    rw [if_neg q5]
    have hd : w.drew.heap[g]? = some (.cells cur Glb.u8 fz) := q6
    simp only [Array.getElem?_modify, hd]
    rfl
  · split <;> simp <;> omega

set_option maxHeartbeats 2000000 in
set_option maxRecDepth 100000 in
/-- (*strings.Builder).String -/
theorem vc_String (L : Lays.n169 P ρ) (X : Builder.Extra P ρ) (hbt : Glb.bt = ρ.t 72) (hu8 : Glb.u8 = ρ.t 5) (c : ByteArray) :
    VCalls P (ρ.f 169) [.ptr 0 0] [.bld c] (fun r H' => r = .d (.str c) ∧ H' = [.bld c]) := by
  refine Ops.exists_one.elim fun inst => ?_
  intro lim B ι I w vs hrel hargs
  obtain ⟨hl, hk⟩ := hargs
  match vs, hl with
  | [a0], _ =>
  have h0 := hk 0 (by simp)
  simp only [List.getD_cons_zero] at h0
  obtain ⟨b, p, v, rfl, hib, hb, hp, hbuf⟩ := bld_enter hrel h0
  have mixed := L.mixed
  have t72 := L.t72; have a72 := L.a72; have z72 := L.z72; have v72 := L.v72; have u72 := run_underlying L.t72
  have t70 := L.t70; have a70 := L.a70; have z70 := L.z70; have v70 := L.v70; have u70 := run_underlying L.t70
  have t37 := L.t37; have a37 := L.a37; have z37 := L.z37; have v37 := L.v37; have u37 := run_underlying L.t37
  have t127 := L.t127; have a127 := L.a127; have z127 := L.z127; have v127 := L.v127; have u127 := run_underlying L.t127
  have t3 := L.t3; have a3 := L.a3; have z3 := L.z3; have v3 := L.v3; have u3 := run_underlying L.t3
  have t9 := L.t9; have a9 := L.a9; have z9 := L.z9; have v9 := L.v9; have u9 := run_underlying L.t9
  have t5 := X.t5; have a5 := X.a5; have z5 := X.z5; have v5 := X.v5; have u5 := run_underlying X.t5
  have hrelD : Rel B ι I w.drew [.bld c] := Rel.heap (w := w) (w' := w.drew) rfl hrel
  rcases hbuf with ⟨rfl, hc0⟩ | ⟨g, cap, cur, fz, rfl, q2, q3, q4, q5, q6, q7, q8, q9, q10, q11⟩
  · -- no byte
    have hUS := Any.unsafeString_none L X
    have c1 : w.drew.cell? ⟨b, 1, none⟩ = some (.slice none 0 0) := by
      have hb' : w.drew.heap[b]? = some (.cells #[p, .slice none 0 0] Glb.bt (0, 0)) := hb
      rw [Lib.cell_of_heap hb']; rfl
    have hSD : (Builtin.unsafeSliceData_ #[(ρ.t 37)] (ρ.t 127) #[.slice none 0 0]).run P w.drew = .ok (.pointer none) w.drew := rfl
    have hce : c = ByteArray.empty := by
      apply ByteArray.ext
      exact Array.eq_empty_of_size_eq_zero hc0
    go_enter L.f169, Body.n169_ntmps ρ
    go_wp2
    go_region_o
    all_goals (go_wp2; go_ret; exact ⟨_, _, _, ι, I, rfl, ⟨by rw [hce], rfl⟩, hrelD, .d _ _ (.str _), ⟨(Below.refl _ _).drew, fun _ _ _ => rfl, fun _ _ h => h, Nat.le_refl _, fun v x h => h.goes (Goes.heap (w := w) (w' := w.drew) rfl I ι _)⟩⟩)
  · -- bytes
    have hlen : c.data.toList.length = c.size := Array.length_toList
    have hl0 : c.data.toList ≠ [] := fun h => by rw [h] at hlen; exact q5 hlen.symm
    have c1 : w.drew.cell? ⟨b, 1, none⟩ = some (.slice (some ⟨g, 0, none⟩) c.size cap) := by
      have hb' : w.drew.heap[b]? = some (.cells #[p, .slice (some ⟨g, 0, none⟩) c.size cap] Glb.bt (0, 0)) := hb
      rw [Lib.cell_of_heap hb']; rfl
    have hSD : (Builtin.unsafeSliceData_ #[(ρ.t 37)] (ρ.t 127) #[.slice (some ⟨g, 0, none⟩) c.size cap]).run P w.drew = .ok (.pointer (some ⟨g, 0, none⟩)) w.drew :=
      Lib.run_unsafeSliceData_row _ _ _ _ _ _ (by omega)
    have hg' : w.drew.heap[g]? = some (.cells cur (ρ.t 5) fz) := by rw [← hu8]; exact q6
    have hUS : (Builtin.unsafeString_ #[(ρ.t 127), (ρ.t 3)] (ρ.t 9) #[.pointer (some ⟨g, 0, none⟩), .int .i64 c.size]).run P w.drew = .ok (.string c) (w.drew.freeze ⟨g, 0, none⟩ c.size) := by
      have := Lib.run_unsafeString_row (P := P) w.drew (ρ.t 127) (ρ.t 3) (ρ.t 9) (ρ.t 5) L.t127 X.cellsByte g cur.size (by simp [World.shape?, hg']) c.data.toList hl0 (by omega) (by omega) (fun j x hx => ?_)
      · rw [hlen] at this
        exact this
      · have e : ((⟨g, 0, none⟩ : Addr).add j) = ⟨g, j, none⟩ := by unfold Addr.add; split <;> simp_all
        rw [e]
        unfold World.cell?
        rw [hg']
        exact q11 j x hx
    go_enter L.f169, Body.n169_ntmps ρ
    go_wp2
    go_region_o
    all_goals (go_wp2; go_ret)
    all_goals
      obtain ⟨hf1, hf2⟩ := bld_froze hrel hib hb hp q2 q3 q4 q5 q6 q7 q8 q9 q10 q11
      exact ⟨_, _, _, ι, I, rfl, ⟨rfl, rfl⟩, hf1, .d _ _ (.str _), hf2⟩

theorem ren_ds (e : Nat → Nat) : ∀ ds : List D, ren.renL e (ds.map A.d) = ds.map A.d
  | [] => rfl
  | _ :: r => by simp [ren.renL, ren, ren_ds e r]

theorem bel_ds (m : Nat) : ∀ (ds : List D) k, k < (ds.map A.d).length → Bel m ((ds.map A.d).getD k .undef)
  | [], k, hk => absurd hk (by simp)
  | x :: r, 0, _ => .d x
  | x :: r, k + 1, hk => by simpa using bel_ds m r k (by simpa using hk)

/-- a method's call, over whatever heap -/
theorem VCalls.bld {K : FuncId} {ds : List D} {c c' : ByteArray} {r0 : A} (h : VCalls P K (.ptr 0 0 :: ds.map .d) [.bld c] (fun r H' => r = r0 ∧ H' = [.bld c'])) (hb : Bel 1 r0) (hr0 : ∀ e, ren e r0 = r0) {H : AHeap} {o : Nat} (ho : getL H o .dead = .bld c) :
    VCalls P K (.ptr o 0 :: ds.map .d) H (fun r H' => r = r0 ∧ H' = setL H o (.bld c')) := by
  have ho : H[o]? = some (.bld c) := by
    refine Ops.exists_one.elim fun inst => ?_
    let lim : Lim := ⟨fun _ _ => True⟩
    rw [getL_eq] at ho
    exact getD_obj ho (by intro h; cases h)
  have hlt : o < H.length := (List.getElem?_eq_some_iff.1 ho).1
  have e0 : (A.ptr o 0 :: ds.map A.d) = ren.renL (fun _ => o) (.ptr 0 0 :: ds.map .d) := by simp [ren.renL, ren, ren_ds]
  rw [e0]
  refine h.frame H (fun _ => o) (fun i j hi hj _ => by simp at hi hj; omega) (fun i x hx => ?_) (fun i x hx => ?_) (fun k hk => ?_) ?_
  · have hi := (List.getElem?_eq_some_iff.1 hx).1
    obtain rfl : i = 0 := by simpa using hi
    simp at hx
    subst hx
    exact ho
  · have hi := (List.getElem?_eq_some_iff.1 hx).1
    obtain rfl : i = 0 := by simpa using hi
    simp at hx
    subst hx
    trivial
  · cases k with
    | zero => exact .ptr _ _ (by simp)
    | succ k => simpa using bel_ds 1 ds k (by simpa using hk)
  · rintro r1 H1' ⟨rfl, rfl⟩
    refine Ops.exists_one.elim fun inst => ?_
    let lim : Lim := ⟨fun _ _ => True⟩
    refine ⟨_, [.bld c'], setL H o (.bld c'), .keep _ hb, Nat.le_refl _, fun i h1 h2 => ?_, ⟨rfl, trivial⟩, fun i x hx => ?_, ?_, fun i x hx => ?_, fun o' _ ho' => ?_, hr0 _, rfl⟩
    · simp at h1 h2; omega
    · have hi := (List.getElem?_eq_some_iff.1 hx).1
      obtain rfl : i = 0 := by simpa using hi
      simp at hx
      subst hx
      trivial
    · rw [setL_eq]; simp
    · have hi := (List.getElem?_eq_some_iff.1 hx).1
      obtain rfl : i = 0 := by simpa using hi
      simp at hx
      subst hx
      rw [setL_eq]
      simp [hlt, renO]
    · have := ho' 0 (by simp)
      rw [setL_eq, List.getElem?_set_ne this]
end

end Go.VM
