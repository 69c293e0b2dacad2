/- Regions that draw the order of their operations: every order, looked at once where the order does not matter. -/
import Derived.Test.YtcpdnjehmnbheaaDoorVQ
set_option linter.unusedSimpArgs false
set_option linter.unusedVariables false
set_option linter.unusedSectionVars false
namespace Go.VM
open Ops
variable [Ops] [Glb] [Lim]

def edgeOk (listed : List Bool) (e : Edge) : Bool :=
  match e.ground with
  | .textOnly _ | .gcOnly _ => true
  | _ => getL listed e.on false

def edgesOk (listed : List Bool) : List Edge → Bool
  | [] => true
  | e :: r => match edgeOk listed e with
    | true => edgesOk listed r
    | false => false

def rdy (listed : List Bool) (i : Nat) (o : Oper) : Bool :=
  match getL listed i true with
  | true => false
  | false => edgesOk listed o.after.toList

/-- an edge on i that binds -/
def onI (i : Nat) : List Edge → Bool
  | [] => false
  | e :: r => match e.ground with
    | .textOnly _ | .gcOnly _ => onI i r
    | _ => match Nat.beq e.on i with
      | true => true
      | false => onI i r

def apartB (all : List Oper) (x y : Oper) : Bool :=
  (match x.dst with
  | some d => (match looksAt all y d with | true => false | false => !isD y.dst d)
  | none => true) &&
  (match y.dst with
  | some d => !looksAt all x d
  | none => true)

def freeB (T : Tab) (all : List Oper) (listed : List Bool) (i : Nat) (x : Oper) : Nat → List Oper → Bool
  | _, [] => true
  | j, y :: r => (match Nat.beq j i with
    | true => true
    | false => match getL listed j true with
      | true => true
      | false => match onI i y.after.toList with
        | true => true
        | false => apartB all x y && (Nat.beq (cls T x.op) 1 || !Nat.beq (cls T y.op) 0)) && freeB T all listed i x (j + 1) r

def findI (f : Nat → Oper → Bool) : Nat → List Oper → Option (Nat × Oper)
  | _, [] => none
  | i, o :: r => match f i o with
    | true => some (i, o)
    | false => findI f (i + 1) r

def eachI (f : Nat → Oper → Bool) (g : Nat → Oper → Prop) : Nat → List Oper → Prop
  | _, [] => True
  | i, o :: r => match f i o with
    | true => g i o ∧ eachI f g (i + 1) r
    | false => eachI f g (i + 1) r

def quiet (T : Tab) (all : List Oper) (listed : List Bool) (i : Nat) (o : Oper) : Bool :=
  match rdy listed i o with
  | false => false
  | true => match Nat.beq (cls T o.op) 0 with
    | true => false
    | false => freeB T all listed i o 0 all

/-- a binding edge on i, or on what waits for i -/
def onDep (dep : List Bool) (i : Nat) : List Edge → Bool
  | [] => false
  | e :: r => match e.ground with
    | .textOnly _ | .gcOnly _ => onDep dep i r
    | _ => match Nat.beq e.on i with
      | true => true
      | false => match getL dep e.on false with
        | true => true
        | false => onDep dep i r
def snocB : List Bool → Bool → List Bool
  | [], b => [b]
  | x :: r, b => x :: snocB r b
/-- what waits for i, straight or through others -/
def depsL (i : Nat) : List Bool → List Oper → List Bool
  | acc, [] => acc
  | acc, o :: r => depsL i (snocB acc (onDep acc i o.after.toList)) r
def depFree : List Bool → List Bool → Bool
  | true :: r, l => match l with
    | true :: _ => false
    | false :: l => depFree r l
    | [] => depFree r []
  | false :: r, l => match l with
    | _ :: l => depFree r l
    | [] => depFree r []
  | [], _ => true
def freeD (T : Tab) (all : List Oper) (listed dep : List Bool) (i : Nat) (x : Oper) : Nat → List Oper → Bool
  | _, [] => true
  | j, y :: r => (match Nat.beq j i with
    | true => true
    | false => match getL listed j true with
      | true => true
      | false => match getL dep j false with
        | true => true
        | false => apartB all x y && (Nat.beq (cls T x.op) 1 || !Nat.beq (cls T y.op) 0)) && freeD T all listed dep i x (j + 1) r
/-- quiet, with an eye on what waits through others -/
def quiet2 (T : Tab) (all : List Oper) (listed : List Bool) (i : Nat) (o : Oper) : Bool :=
  match rdy listed i o with
  | false => false
  | true => match Nat.beq (cls T o.op) 0 with
    | true => false
    | false => match depFree (depsL i [] all) listed with
      | false => false
      | true => freeD T all listed (depsL i [] all) i o 0 all

def wdraw (P : Unit → Program) (T : Unit → Tab) (all : List Oper) : Nat → List Bool → St → (St → Prop) → Prop
  | 0, listed, σ, K => match findI (rdy listed) 0 all with
    | none => K σ
    | some _ => False
  | f + 1, listed, σ, K => match findI (quiet (T ()) all listed) 0 all with
    | some (i, o) => wopG P T all o σ.tm σ.hp (fun r hp => wdraw P T all f (setL listed i true) ⟨put σ.tm o.dst r, hp⟩ K)
    | none => match findI (quiet2 (T ()) all listed) 0 all with
      | some (i, o) => wopG P T all o σ.tm σ.hp (fun r hp => wdraw P T all f (setL listed i true) ⟨put σ.tm o.dst r, hp⟩ K)
      | none => match findI (rdy listed) 0 all with
        | none => K σ
        | some _ => eachI (rdy listed) (fun i o => wopG P T all o σ.tm σ.hp (fun r hp => wdraw P T all f (setL listed i true) ⟨put σ.tm o.dst r, hp⟩ K)) 0 all

/-- every order -/
def wany (P : Unit → Program) (T : Unit → Tab) (all : List Oper) : Nat → List Bool → St → (St → Prop) → Prop
  | 0, listed, σ, K => (∀ i o, all[i]? = some o → rdy listed i o = false) ∧ K σ
  | f + 1, listed, σ, K => ((∀ i o, all[i]? = some o → rdy listed i o = false) → K σ) ∧
    ∀ i o, all[i]? = some o → rdy listed i o = true → wopG P T all o σ.tm σ.hp (fun r hp => wany P T all f (setL listed i true) ⟨put σ.tm o.dst r, hp⟩ K)

theorem findI_none {f : Nat → Oper → Bool} : ∀ {l : List Oper} {k : Nat}, findI f k l = none → ∀ i o, l[i]? = some o → f (k + i) o = false
  | [], _, _, i, o, h => by simp at h
  | x :: r, k, hn, i, o, h => by
    simp only [findI] at hn
    split at hn
    · cases hn
    · rename_i hx
      cases i with
      | zero => simp at h; subst h; exact hx
      | succ i => rw [show k + (i + 1) = k + 1 + i by omega]; exact findI_none hn i o (by simpa using h)

theorem findI_some {f : Nat → Oper → Bool} : ∀ {l : List Oper} {k i : Nat} {o : Oper}, findI f k l = some (i, o) → k ≤ i ∧ l[i - k]? = some o ∧ f i o = true
  | [], _, _, _, h => by cases h
  | x :: r, k, i, o, h => by
    simp only [findI] at h
    split at h
    · rename_i hx
      cases h
      exact ⟨Nat.le_refl _, by simp, hx⟩
    · obtain ⟨h1, h2, h3⟩ := findI_some h
      refine ⟨by omega, ?_, h3⟩
      rw [show i - k = i - (k + 1) + 1 by omega]
      simpa using h2

theorem eachI_all {f : Nat → Oper → Bool} {g : Nat → Oper → Prop} : ∀ {l : List Oper} {k : Nat}, eachI f g k l → ∀ i o, l[i]? = some o → f (k + i) o = true → g (k + i) o
  | [], _, _, i, o, h, _ => by simp at h
  | x :: r, k, he, i, o, h, hf => by
    simp only [eachI] at he
    cases i with
    | zero =>
      simp at h; subst h
      rw [show f k x = true from hf] at he
      exact he.1
    | succ i =>
      rw [show k + (i + 1) = k + 1 + i by omega] at hf ⊢
      split at he
      · exact eachI_all he.2 i o (by simpa using h) hf
      · exact eachI_all he i o (by simpa using h) hf

theorem freeB_spec {T : Tab} {all : List Oper} {listed : List Bool} {i : Nat} {x : Oper} : ∀ {l : List Oper} {k : Nat}, freeB T all listed i x k l = true → ∀ j y, l[j]? = some y → k + j ≠ i → getL listed (k + j) true = false → onI i y.after.toList = false → apartB all x y = true ∧ (cls T x.op = 1 ∨ cls T y.op ≠ 0)
  | [], _, _, j, y, h, _, _, _ => by simp at h
  | z :: r, k, hf, j, y, h, hne, hun, hon => by
    simp only [freeB, Bool.and_eq_true] at hf
    cases j with
    | zero =>
      simp at h; subst h
      have hf := hf.1
      have hb : Nat.beq k i = false := by
        cases hb : Nat.beq k i with
        | false => rfl
        | true => exact absurd (Nat.eq_of_beq_eq_true hb) hne
      simp only [Nat.add_zero] at hun
      simp only [hb, hun, hon, Bool.and_eq_true, Bool.or_eq_true, Bool.not_eq_true', Nat.beq_eq] at hf
      refine ⟨hf.1, hf.2.imp id fun h => ?_⟩
      intro e
      rw [e] at h
      cases h
    | succ j =>
      exact freeB_spec hf.2 j y (by simpa using h) (by omega) (by rw [show k + 1 + j = k + (j + 1) by omega]; exact hun) hon

theorem freeD_spec {T : Tab} {all : List Oper} {listed dep : List Bool} {i : Nat} {x : Oper} : ∀ {l : List Oper} {k : Nat}, freeD T all listed dep i x k l = true → ∀ j y, l[j]? = some y → k + j ≠ i → getL listed (k + j) true = false → getL dep (k + j) false = false → apartB all x y = true ∧ (cls T x.op = 1 ∨ cls T y.op ≠ 0)
  | [], _, _, j, y, h, _, _, _ => by simp at h
  | z :: r, k, hf, j, y, h, hne, hun, hon => by
    simp only [freeD, Bool.and_eq_true] at hf
    cases j with
    | zero =>
      simp at h; subst h
      have hf := hf.1
      have hb : Nat.beq k i = false := by
        cases hb : Nat.beq k i with
        | false => rfl
        | true => exact absurd (Nat.eq_of_beq_eq_true hb) hne
      simp only [Nat.add_zero] at hun hon
      simp only [hb, hun, hon, Bool.and_eq_true, Bool.or_eq_true, Bool.not_eq_true', Nat.beq_eq] at hf
      refine ⟨hf.1, hf.2.imp id fun h => ?_⟩
      intro e
      rw [e] at h
      cases h
    | succ j =>
      exact freeD_spec hf.2 j y (by simpa using h) (by omega) (by rw [show k + 1 + j = k + (j + 1) by omega]; exact hun) (by rw [show k + 1 + j = k + (j + 1) by omega]; exact hon)
theorem snocB_eq (l : List Bool) (b : Bool) : snocB l b = l ++ [b] := by
  induction l with
  | nil => rfl
  | cons x r ih => simp [snocB, ih]
theorem onDep_mono {dep dep' : List Bool} {i : Nat} (h : ∀ z, getL dep z false = true → getL dep' z false = true) : ∀ {es : List Edge}, onDep dep i es = true → onDep dep' i es = true
  | [], h2 => by cases h2
  | e :: r, h2 => by
    have ih := onDep_mono (i := i) h (es := r)
    unfold onDep at h2 ⊢
    cases hg : e.ground <;> simp only [hg] at h2 ⊢ <;> (try exact ih h2)
    all_goals
      cases hb : Nat.beq e.on i with
      | true => rfl
      | false =>
        simp only [hb] at h2 ⊢
        cases hd : getL dep e.on false with
        | true => rw [h _ hd]
        | false =>
          simp only [hd] at h2
          cases getL dep' e.on false with
          | true => rfl
          | false => exact ih h2
theorem depsL_ge (i : Nat) : ∀ (r : List Oper) (acc : List Bool) (z : Nat), z < acc.length → getL (depsL i acc r) z false = getL acc z false
  | [], acc, z, hz => rfl
  | o :: r, acc, z, hz => by
    rw [depsL, depsL_ge i r _ z (by rw [snocB_eq]; simp; omega), snocB_eq]
    simp only [getL_eq, List.getD_eq_getElem?_getD]
    rw [List.getElem?_append_left hz]
theorem depsL_spec (i : Nat) : ∀ (r : List Oper) (acc : List Bool) (j : Nat) (y : Oper), r[j]? = some y → getL (depsL i acc r) (acc.length + j) false = true → onDep (depsL i acc r) i y.after.toList = true
  | [], acc, j, y, h, _ => by simp at h
  | o :: r, acc, j, y, h, hd => by
    cases j with
    | zero =>
      simp at h; subst h
      rw [depsL] at hd ⊢
      rw [Nat.add_zero, depsL_ge i r _ acc.length (by rw [snocB_eq]; simp)] at hd
      have h1 : onDep acc i o.after.toList = true := by
        rw [snocB_eq] at hd
        simpa [getL_eq, List.getD_eq_getElem?_getD] using hd
      refine onDep_mono (fun z hz => ?_) h1
      have hlt : z < acc.length := by
        rcases Nat.lt_or_ge z acc.length with h' | h'
        · exact h'
        · simp [getL_eq, List.getD_eq_getElem?_getD, List.getElem?_eq_none h'] at hz
      rw [depsL_ge i r _ z (by rw [snocB_eq]; simp; omega), snocB_eq]
      simp only [getL_eq, List.getD_eq_getElem?_getD] at hz ⊢
      rw [List.getElem?_append_left hlt]
      exact hz
    | succ j =>
      rw [depsL] at hd ⊢
      refine depsL_spec i r _ j y (by simpa using h) ?_
      rw [snocB_eq] at hd ⊢
      rw [show (acc ++ [onDep acc i o.after.toList]).length + j = acc.length + (j + 1) by simp; omega]
      exact hd
theorem depFree_spec : ∀ {dep listed : List Bool}, depFree dep listed = true → ∀ z, getL dep z false = true → getL listed z false = false
  | [], l, _, z, hz => by simp [getL_eq] at hz
  | true :: r, l, h, z, hz => by
    match l, h with
    | false :: l, h =>
      cases z with
      | zero => rfl
      | succ z => exact depFree_spec (dep := r) (listed := l) h z (by simpa [getL] using hz)
    | [], h => simp [getL_eq]
  | false :: r, l, h, z, hz => by
    match l, h with
    | x :: l, h =>
      cases z with
      | zero => simp [getL] at hz
      | succ z => exact depFree_spec (dep := r) (listed := l) h z (by simpa [getL] using hz)
    | [], h => simp [getL_eq]

theorem getL_setL_ne {l : List Bool} {i j : Nat} {d : Bool} (h : i ≠ j) : getL (setL l i true) j d = getL l j d := by
  simp only [getL_eq, setL_eq]
  simp [List.getD_eq_getElem?_getD, List.getElem?_set_ne h]

theorem getL_setL_true {l : List Bool} {i j : Nat} (h : getL l j false = true) : getL (setL l i true) j false = true := by
  by_cases e : i = j
  · subst e
    simp only [getL_eq, setL_eq, List.getD_eq_getElem?_getD] at h ⊢
    have hlt : i < l.length := by
      rcases Nat.lt_or_ge i l.length with h' | h'
      · exact h'
      · simp [List.getElem?_eq_none h'] at h
    simp [List.getElem?_set, hlt]
  · rw [getL_setL_ne e]; exact h

theorem edgesOk_mono {l : List Bool} {i : Nat} : ∀ {es : List Edge}, edgesOk l es = true → edgesOk (setL l i true) es = true
  | [], _ => rfl
  | e :: r, h => by
    simp only [edgesOk] at h ⊢
    split at h
    · rename_i he
      have : edgeOk (setL l i true) e = true := by
        unfold edgeOk at he ⊢
        split at he
        · rfl
        · rfl
        · exact getL_setL_true he
      rw [this]
      exact edgesOk_mono h
    · cases h

theorem rdy_mono {l : List Bool} {i j : Nat} {o : Oper} (h : rdy l j o = true) (hne : i ≠ j) : rdy (setL l i true) j o = true := by
  unfold rdy at h ⊢
  rw [getL_setL_ne hne]
  split at h
  · cases h
  · exact edgesOk_mono h

/-- what is ready waits for nothing that is not listed -/
theorem onI_rdy {l : List Bool} {i : Nat} (hi : getL l i true = false) : ∀ {es : List Edge}, edgesOk l es = true → onI i es = false
  | [], _ => rfl
  | e :: r, h => by
    simp only [edgesOk] at h
    split at h
    · rename_i he
      have ih := onI_rdy hi h
      unfold onI
      split
      · exact ih
      · exact ih
      · rename_i h1 h2
        split
        · rename_i hb
          have hb := Nat.eq_of_beq_eq_true hb
          have : getL l e.on false = true := by
            unfold edgeOk at he
            split at he
            · rename_i d hd; exact absurd hd (h1 d)
            · rename_i d hd; exact absurd hd (h2 d)
            · exact he
          rw [hb] at this
          simp only [getL_eq, List.getD_eq_getElem?_getD] at this hi
          cases hq : l[i]? <;> simp_all
        · exact ih
    · cases h

theorem onDep_rdy {l dep : List Bool} {i : Nat} (hi : getL l i true = false) (hd : ∀ z, getL dep z false = true → getL l z false = false) : ∀ {es : List Edge}, edgesOk l es = true → onDep dep i es = false
  | [], _ => rfl
  | e :: r, h => by
    simp only [edgesOk] at h
    split at h
    · rename_i he
      have ih := onDep_rdy hi hd h
      unfold onDep
      split
      · exact ih
      · exact ih
      · rename_i h1 h2
        have hl : getL l e.on false = true := by
          unfold edgeOk at he
          split at he
          · rename_i d hd; exact absurd hd (h1 d)
          · rename_i d hd; exact absurd hd (h2 d)
          · exact he
        split
        · rename_i hb
          have hb := Nat.eq_of_beq_eq_true hb
          rw [hb] at hl
          simp only [getL_eq, List.getD_eq_getElem?_getD] at hl hi
          cases hq : l[i]? <;> simp_all
        · split
          · rename_i hz
            rw [hd _ hz] at hl
            cases hl
          · exact ih
    · cases h

section
variable {P : Unit → Program} {T : Unit → Tab} {all : List Oper}

/-- operation o gives v, now and while no one else changes what it reads -/
def Gives (P : Unit → Program) (T : Unit → Tab) (all : List Oper) (o : Oper) (v : A) (tm : List A) (hp : AHeap) : Prop :=
  (∀ K', K' v hp → wopG P T all o tm hp K') ∧ (cls (T ()) o.op = 1 → ∀ hp' K', K' v hp' → wopG P T all o tm hp' K')

theorem apartB_spec {x y : Oper} (h : apartB all x y = true) : readsNot all y x.dst ∧ (∀ d, x.dst = some d → y.dst ≠ some d) ∧ readsNot all x y.dst := by
  unfold apartB at h
  rw [Bool.and_eq_true] at h
  refine ⟨fun d hd => ?_, fun d hd => ?_, fun d hd => ?_⟩
  · have h := h.1
    rw [hd] at h
    dsimp only at h
    split at h
    · cases h
    · assumption
  · have h := h.1
    rw [hd] at h
    dsimp only at h
    split at h
    · cases h
    · intro e
      rw [e] at h
      simp [isD] at h
  · have h := h.2
    rw [hd] at h
    simpa using h

theorem Gives.put {o : Oper} {v : A} {tm : List A} {hp hp' : AHeap} (h : Gives P T all o v tm hp) {x : Option Nat} {u : A} (hr : readsNot all o x) (hh : cls (T ()) o.op = 1 ∨ hp' = hp) : Gives P T all o v (put tm x u) hp' := by
  refine ⟨fun K' hk => ?_, fun hc hp'' K' hk => ?_⟩
  · rw [wopG_put hr]
    rcases hh with hc | rfl
    · exact h.2 hc _ _ hk
    · exact h.1 _ hk
  · rw [wopG_put hr]
    exact h.2 hc _ _ hk

theorem wany_first (he : ∀ t e xs ys Q Q', (T ()).eq t = some e → (∀ a, Q a → Q' a) → e xs ys Q → e xs ys Q') {i : Nat} {oi : Oper} {v : A} (hi : all[i]? = some oi) {K : St → Prop} :
    ∀ (f : Nat) (listed : List Bool) (tm : List A) (hp : AHeap),
      (∀ j y, all[j]? = some y → j ≠ i → getL listed j true = false → onI i y.after.toList = false → apartB all oi y = true ∧ (cls (T ()) oi.op = 1 ∨ cls (T ()) y.op ≠ 0)) →
      rdy listed i oi = true → Gives P T all oi v tm hp →
      wany P T all f (setL listed i true) ⟨put tm oi.dst v, hp⟩ K → wany P T all (f + 1) listed ⟨tm, hp⟩ K := by
  intro f
  induction f with
  | zero =>
    intro listed tm hp _ hr hg H
    refine ⟨fun h => (by rw [h i oi hi] at hr; cases hr), fun j o hj hrj => ?_⟩
    by_cases hji : j = i
    · subst hji
      rw [hi] at hj; cases hj
      exact hg.1 _ H
    · have := H.1 j o hj
      rw [rdy_mono hrj (Ne.symm hji)] at this
      cases this
  | succ f ih =>
    intro listed tm hp hfree hr hg H
    refine ⟨fun h => (by rw [h i oi hi] at hr; cases hr), fun j oj hj hrj => ?_⟩
    by_cases hji : j = i
    · subst hji
      rw [hi] at hj; cases hj
      exact hg.1 _ H
    · have h1 := H.2 j oj hj (rdy_mono hrj (Ne.symm hji))
      dsimp only at h1 ⊢
      have hli : getL listed i true = false := by
        unfold rdy at hr
        split at hr
        · cases hr
        · assumption
      have hlj : getL listed j true = false := by
        unfold rdy at hrj
        split at hrj
        · cases hrj
        · assumption
      have hon : onI i oj.after.toList = false := onI_rdy hli (by
        unfold rdy at hrj
        rw [hlj] at hrj
        exact hrj)
      obtain ⟨hap, hcl⟩ := hfree j oj hj hji hlj hon
      obtain ⟨a1, a2, a3⟩ := apartB_spec hap
      rw [wopG_put a1] at h1
      have step : ∀ r hp', (cls (T ()) oi.op = 1 ∨ hp' = hp) → wany P T all f (setL (setL listed i true) j true) ⟨put (put tm oi.dst v) oj.dst r, hp'⟩ K → wany P T all (f + 1) (setL listed j true) ⟨put tm oj.dst r, hp'⟩ K := by
        intro r hp' hh h3
        refine ih (setL listed j true) (put tm oj.dst r) hp' ?_ (rdy_mono hr hji) (hg.put a3 hh) ?_
        · intro k y hk hki hun hno
          refine hfree k y hk hki ?_ hno
          by_cases hjk : j = k
          · subst hjk; exact hlj
          · rw [getL_setL_ne hjk] at hun; exact hun
        · rw [← put_put a2]
          have : setL (setL listed j true) i true = setL (setL listed i true) j true := by
            simp only [setL_eq]
            exact List.set_comm _ _ hji
          rw [this]
          exact h3
      rcases hcl with hcl | hcl
      · exact wopG_mono he (fun r hp' h => step r hp' (.inl hcl) h) h1
      · obtain ⟨u, h2, h3, -⟩ := one_wopG hcl h1
        exact h3 _ (step u hp (.inr rfl) h2)

theorem wany_first2 {dep : List Bool} (he : ∀ t e xs ys Q Q', (T ()).eq t = some e → (∀ a, Q a → Q' a) → e xs ys Q → e xs ys Q') {i : Nat} {oi : Oper} {v : A} (hi : all[i]? = some oi) {K : St → Prop} :
    ∀ (f : Nat) (listed : List Bool) (tm : List A) (hp : AHeap),
      (∀ j y, all[j]? = some y → getL dep j false = true → onDep dep i y.after.toList = true) → (∀ z, getL dep z false = true → getL listed z false = false) →
      (∀ j y, all[j]? = some y → j ≠ i → getL listed j true = false → getL dep j false = false → apartB all oi y = true ∧ (cls (T ()) oi.op = 1 ∨ cls (T ()) y.op ≠ 0)) →
      rdy listed i oi = true → Gives P T all oi v tm hp →
      wany P T all f (setL listed i true) ⟨put tm oi.dst v, hp⟩ K → wany P T all (f + 1) listed ⟨tm, hp⟩ K := by
  intro f
  induction f with
  | zero =>
    intro listed tm hp _ _ _ hr hg H
    refine ⟨fun h => (by rw [h i oi hi] at hr; cases hr), fun j o hj hrj => ?_⟩
    by_cases hji : j = i
    · subst hji
      rw [hi] at hj; cases hj
      exact hg.1 _ H
    · have := H.1 j o hj
      rw [rdy_mono hrj (Ne.symm hji)] at this
      cases this
  | succ f ih =>
    intro listed tm hp hdep hnd hfree hr hg H
    refine ⟨fun h => (by rw [h i oi hi] at hr; cases hr), fun j oj hj hrj => ?_⟩
    by_cases hji : j = i
    · subst hji
      rw [hi] at hj; cases hj
      exact hg.1 _ H
    · have h1 := H.2 j oj hj (rdy_mono hrj (Ne.symm hji))
      dsimp only at h1 ⊢
      have hli : getL listed i true = false := by
        unfold rdy at hr
        split at hr
        · cases hr
        · assumption
      have hlj : getL listed j true = false := by
        unfold rdy at hrj
        split at hrj
        · cases hrj
        · assumption
      have hon : onDep dep i oj.after.toList = false := onDep_rdy hli hnd (by
        unfold rdy at hrj
        rw [hlj] at hrj
        exact hrj)
      have hon : getL dep j false = false := by
        cases hdj : getL dep j false with
        | false => rfl
        | true => rw [hdep j oj hj hdj] at hon; cases hon
      obtain ⟨hap, hcl⟩ := hfree j oj hj hji hlj hon
      obtain ⟨a1, a2, a3⟩ := apartB_spec hap
      rw [wopG_put a1] at h1
      have step : ∀ r hp', (cls (T ()) oi.op = 1 ∨ hp' = hp) → wany P T all f (setL (setL listed i true) j true) ⟨put (put tm oi.dst v) oj.dst r, hp'⟩ K → wany P T all (f + 1) (setL listed j true) ⟨put tm oj.dst r, hp'⟩ K := by
        intro r hp' hh h3
        refine ih (setL listed j true) (put tm oj.dst r) hp' hdep (fun z hz => by
          have hjz : j ≠ z := fun e => by rw [← e, hon] at hz; cases hz
          rw [getL_setL_ne hjz]
          exact hnd z hz) ?_ (rdy_mono hr hji) (hg.put a3 hh) ?_
        · intro k y hk hki hun hno
          refine hfree k y hk hki ?_ hno
          by_cases hjk : j = k
          · subst hjk; exact hlj
          · rw [getL_setL_ne hjk] at hun; exact hun
        · rw [← put_put a2]
          have : setL (setL listed j true) i true = setL (setL listed i true) j true := by
            simp only [setL_eq]
            exact List.set_comm _ _ hji
          rw [this]
          exact h3
      rcases hcl with hcl | hcl
      · exact wopG_mono he (fun r hp' h => step r hp' (.inl hcl) h) h1
      · obtain ⟨u, h2, h3, -⟩ := one_wopG hcl h1
        exact h3 _ (step u hp (.inr rfl) h2)

theorem wany_of_draw (he : ∀ t e xs ys Q Q', (T ()).eq t = some e → (∀ a, Q a → Q' a) → e xs ys Q → e xs ys Q') {K : St → Prop} : ∀ (f : Nat) (listed : List Bool) (σ : St), wdraw P T all f listed σ K → wany P T all f listed σ K
  | 0, listed, σ, h => by
    unfold wdraw at h
    split at h
    · rename_i hn
      exact ⟨fun i o ho => by simpa using findI_none hn i o ho, h⟩
    · exact h.elim
  | f + 1, listed, σ, h => by
    unfold wdraw at h
    split at h
    · rename_i i o hf
      obtain ⟨-, h1, h2⟩ := findI_some hf
      rw [Nat.sub_zero] at h1
      unfold quiet at h2
      split at h2
      · cases h2
      · rename_i hr
        split at h2
        · cases h2
        · rename_i hc
          have hc : cls (T ()) o.op ≠ 0 := fun e => by rw [e] at hc; cases hc
          obtain ⟨v, k1, k2, k3⟩ := one_wopG hc h
          refine wany_first he h1 f listed σ.tm σ.hp ?_ hr ⟨k2, k3⟩ (wany_of_draw he f _ _ k1)
          intro j y hj hne hun hon
          exact freeB_spec h2 j y hj (by simpa using hne) (by simpa using hun) hon
    · split at h
      · rename_i i o hf
        obtain ⟨-, h1, h2⟩ := findI_some hf
        rw [Nat.sub_zero] at h1
        unfold quiet2 at h2
        split at h2
        · cases h2
        · rename_i hr
          split at h2
          · cases h2
          · rename_i hc
            split at h2
            · cases h2
            · rename_i hdf
              have hc : cls (T ()) o.op ≠ 0 := fun e => by rw [e] at hc; cases hc
              obtain ⟨v, k1, k2, k3⟩ := one_wopG hc h
              refine wany_first2 (dep := depsL i [] all) he h1 f listed σ.tm σ.hp ?_ (depFree_spec hdf) ?_ hr ⟨k2, k3⟩ (wany_of_draw he f _ _ k1)
              · intro j y hj hd
                exact depsL_spec i all [] j y hj (by simpa using hd)
              · intro j y hj hne hun hon
                exact freeD_spec h2 j y hj (by simpa using hne) (by simpa using hun) (by simpa using hon)
      · split at h
        · rename_i hn
          refine ⟨fun _ => h, fun i o ho hr => ?_⟩
          have := findI_none hn i o ho
          rw [Nat.zero_add, hr] at this
          cases this
        · rename_i io hs
          obtain ⟨i, o⟩ := io
          obtain ⟨-, h1, h2⟩ := findI_some hs
          refine ⟨fun hno => ?_, fun j y hj hr => ?_⟩
          · rw [hno i o (by simpa using h1)] at h2; cases h2
          · have := eachI_all h j y hj (by simpa using hr)
            rw [Nat.zero_add] at this
            exact wopG_mono he (fun r hp h => wany_of_draw he f _ _ h) this
end
end Go.VM
