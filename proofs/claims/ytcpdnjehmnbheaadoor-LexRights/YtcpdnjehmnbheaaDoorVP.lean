/- The tables: checked by a run of the kernel. -/
import Derived.Test.YtcpdnjehmnbheaaDoorVU
import Derived.Laws.StructEq
set_option linter.unusedSimpArgs false
set_option linter.unusedVariables false
set_option linter.unusedSectionVars false
namespace Go.VM
open Ops
variable [Ops] [Glb] [Lim]

inductive TT where
  | nil
  | node (l : TT) (v : Option TI) (r : TT)

def TT.get : Nat → TT → Nat → Option TI
  | 0, _, _ => none
  | _ + 1, .nil, _ => none
  | f + 1, .node l v r, i => match i with
    | 0 => v
    | k + 1 => match k % 2 with
      | 0 => TT.get f l (k / 2)
      | _ => TT.get f r (k / 2)

/-- equality of zero cells, as a test -/
def zeroEq : A → A → Bool
  | .d (.int k n), .d (.int k' n') => IntKind.same k k' && decide (n = n')
  | .d (.bool b), .d (.bool b') => Bool.same b b'
  | .d (.str s), .d (.str s') => decide (s.data.toList = s'.data.toList)
  | .d .nilp, .d .nilp => true
  | .d .nilf, .d .nilf => true
  | .d .nili, .d .nili => true
  | .nils, .nils => true
  | .undef, .undef => true
  | _, _ => false

theorem zeroEq_ok {a b : A} (h : zeroEq a b = true) : a = b := by
  unfold zeroEq at h
  split at h
  · rename_i k n k' n'
    simp only [Bool.and_eq_true, decide_eq_true_eq] at h
    have : k = k' := by cases k <;> cases k' <;> simp_all [IntKind.same]
    rw [this, h.2]
  · rw [Bool.same_eq] at h; simp at h; rw [h]
  · simp only [decide_eq_true_eq] at h
    rename_i s s'
    have : s = s' := by
      cases s; cases s'
      simp only at h
      congr
      exact Array.ext' h
    rw [this]
  all_goals first | rfl | cases h

def zerosEq : List A → List A → Bool
  | [], [] => true
  | a :: as, b :: bs => zeroEq a b && zerosEq as bs
  | _, _ => false

theorem zerosEq_ok : ∀ {as bs : List A}, zerosEq as bs = true → as = bs
  | [], [], _ => rfl
  | a :: as, b :: bs, h => by
    simp only [zerosEq, Bool.and_eq_true] at h
    rw [zeroEq_ok h.1, zerosEq_ok h.2]
  | [], _ :: _, h => by cases h
  | _ :: _, [], h => by cases h

def fsEq : List (Nat × Nat) → List (Nat × Nat) → Bool
  | [], [] => true
  | (a, b) :: r, (a', b') :: r' => Nat.beq a a' && Nat.beq b b' && fsEq r r'
  | _, _ => false

theorem fsEq_ok : ∀ {as bs : List (Nat × Nat)}, fsEq as bs = true → as = bs
  | [], [], _ => rfl
  | (a, b) :: r, (a', b') :: r', h => by
    simp only [fsEq, Bool.and_eq_true, Nat.beq_eq] at h
    rw [h.1.1, h.1.2, fsEq_ok h.2]
  | [], _ :: _, h => by cases h
  | _ :: _, [], h => by cases h

def kindEq : TK → TK → Bool
  | .int k, .int k' => IntKind.same k k'
  | .bool, .bool => true
  | .string, .string => true
  | .slice e, .slice e' => Nat.beq e e'
  | .struct f, .struct f' => fsEq f f'
  | .array n e, .array n' e' => Nat.beq n n' && Nat.beq e e'
  | .pointer e, .pointer e' => Nat.beq e e'
  | .func, .func => true
  | .other, .other => true
  | _, _ => false

theorem kindEq_ok {a b : TK} (h : kindEq a b = true) : a = b := by
  unfold kindEq at h
  split at h
  · rename_i k k'
    have : k = k' := by cases k <;> cases k' <;> simp_all [IntKind.same]
    rw [this]
  · rfl
  · rfl
  · simp only [Nat.beq_eq] at h; rw [h]
  · rw [fsEq_ok h]
  · simp only [Bool.and_eq_true, Nat.beq_eq] at h; rw [h.1, h.2]
  · simp only [Nat.beq_eq] at h; rw [h]
  · rfl
  · rfl
  · cases h

def tiOk (P : Program) (t : Nat) (i : TI) : Bool :=
  match P.underlying t, P.info? t with
  | some d, some inf => kindEq (kindOf d) i.kind && Nat.beq inf.size i.size && Nat.beq inf.bytes i.bytes &&
    (match inf.zero with
    | some z => zerosEq (z.cells.toList.map absLeaf) i.zero && Nat.beq z.cells.size i.size
    | none => false)
  | _, _ => false

theorem tiOk_ok {P : Program} {t : Nat} {i : TI} (h : tiOk P t i = true) : TIOk P t i := by
  unfold tiOk at h
  split at h
  · rename_i d inf hd hi
    simp only [Bool.and_eq_true, Nat.beq_eq] at h
    obtain ⟨⟨⟨h1, h2⟩, h3⟩, h4⟩ := h
    split at h4
    · rename_i z hz
      simp only [Bool.and_eq_true, Nat.beq_eq] at h4
      exact ⟨⟨d, hd, kindEq_ok h1⟩, ⟨inf, z, hi, h2, h3, hz, zerosEq_ok h4.1, h4.2⟩⟩
    · cases h4
  · cases h

/-! ### Equality of structs of plain cells -/
def eqLeaf (x y : A) (K : Bool → Prop) : Prop :=
  match x, y with
  | .d (.int k a), .d (.int k' b) => IntKind.same k k' = true ∧ Imp (eqP a b) (K true) ∧ Imp (neP a b) (K false)
  | .d (.str a), .d (.str b) => Imp (eqSP a b) (K true) ∧ Imp (neSP a b) (K false)
  | .d (.bool a), .d (.bool b) => K (Bool.same a b)
  | _, _ => False

def andB : Bool → Bool → Bool
  | true, b => b
  | false, _ => false

theorem andB_eq (a b : Bool) : andB a b = (a && b) := by cases a <;> rfl

def eqCells : List A → List A → (A → Prop) → Prop
  | [], [], Q => Q (.d (.bool true))
  | [x], [y], Q => eqLeaf x y (fun b => Q (.d (.bool b)))
  | x :: xs, y :: ys, Q => eqLeaf x y (fun b => eqCells xs ys (fun r => match r with | .d (.bool c) => Q (.d (.bool (andB b c))) | _ => False))
  | _, _, _ => False

/-- the kind of a plain cell's type -/
inductive PK where
  | int | str | bool

def pkOf (P : Program) (t : Nat) : Option PK :=
  match P.underlying t with
  | some .bool => some .bool
  | some .string => some .str
  | some (.int _) => some .int
  | _ => none

def pkFits : PK → A → Bool
  | .int, .d (.int _ _) => true
  | .str, .d (.str _) => true
  | .bool, .d (.bool _) => true
  | _, _ => false

def pksFit : List PK → List A → Bool
  | [], [] => true
  | p :: ps, a :: as => pkFits p a && pksFit ps as
  | _, _ => false

def eqPlain (ps : List PK) (xs ys : List A) (Q : A → Prop) : Prop := pksFit ps xs = true ∧ pksFit ps ys = true ∧ eqCells xs ys Q

def fieldsAre (P : Program) : Nat → List Field → List PK → Bool
  | _, [], [] => true
  | n, f :: r, p :: ps => decide (f.name ≠ "_") && Nat.beq f.offset n && (match pkOf P f.type, p with | some .int, .int => true | some .str, .str => true | some .bool, .bool => true | _, _ => false) && fieldsAre P (n + 1) r ps
  | _, _, _ => false

def eqTiOk (P : Program) (t : Nat) (ps : List PK) : Bool :=
  match P.underlying t with
  | some (.struct fs) => fieldsAre P 0 fs.toList ps && !P.stoodInHeld t && !P.eqGuardType P.depth t && Nat.blt 0 ps.length
  | _ => false

theorem pk_eq {P : Program} {t : Nat} {p : PK} {x y : A} {K : Bool → Prop} (hp : (match pkOf P t, p with | some .int, .int => true | some .str, .str => true | some .bool, .bool => true | _, _ => false) = true) (hx : pkFits p x = true) (hy : pkFits p y = true) (h : eqLeaf x y K) :
    ∃ b, K b ∧ ∀ (d : Nat) (w : World) I ι H vx vy, RepA w I ι H vx x → RepA w I ι H vy y → (isAgg t).run P w = .ok false w ∧ (Op.equalIn (d + 1) t vx vy).run P w = .ok b w := by
  have hu : ∃ u, P.underlying t = some u ∧ (match u, p with | .int _, .int => true | .string, .str => true | .bool, .bool => true | _, _ => false) = true := by
    unfold pkOf at hp
    cases hq : P.underlying t with
    | none => simp [hq] at hp
    | some u =>
      rw [hq] at hp
      refine ⟨u, rfl, ?_⟩
      cases u <;> cases p <;> simp_all
  obtain ⟨u, hu, hup⟩ := hu
  unfold eqLeaf at h
  split at h
  · rename_i k a k' b
    obtain ⟨hk, h⟩ := h
    have hk : k = k' := by cases k <;> cases k' <;> simp_all [IntKind.same]
    subst hk
    cases p <;> simp [pkFits] at hx hy
    cases u <;> simp at hup
    simp only [Imp_eq, eqP_eq, neP_eq] at h
    refine ⟨decide (a = b), by by_cases e : a = b <;> simp [e, h], fun d w I ι H vx vy h1 h2 => ?_⟩
    obtain rfl := rep_int h1
    obtain rfl := rep_int h2
    refine ⟨by simp [isAgg, run_underlying hu], ?_⟩
    simp [Op.equalIn, run_underlying hu, Int.bool_eq]
  · rename_i a b
    cases p <;> simp [pkFits] at hx hy
    cases u <;> simp at hup
    simp only [Imp_eq, eqSP_eq, neSP_eq] at h
    refine ⟨decide (a = b), by by_cases e : a = b <;> simp [e, h], fun d w I ι H vx vy h1 h2 => ?_⟩
    obtain rfl := rep_str h1
    obtain rfl := rep_str h2
    refine ⟨by simp [isAgg, run_underlying hu], ?_⟩
    rw [run_equalIn_string _ _ _ _ _ hu]
    congr 1
    by_cases e : a = b
    · subst e; simp
    · have : a.toList ≠ b.toList := fun h => e (by
        rw [ByteArray.toList_eq, ByteArray.toList_eq] at h
        exact ByteArray.ext (Array.toList_inj.1 h))
      simp [e, this]
  · rename_i a b
    cases p <;> simp [pkFits] at hx hy
    cases u <;> simp at hup
    refine ⟨_, h, fun d w I ι H vx vy h1 h2 => ?_⟩
    obtain rfl := rep_bool h1
    obtain rfl := rep_bool h2
    refine ⟨by simp [isAgg, run_underlying hu], ?_⟩
    rw [Bool.same_eq]
    simp [Op.equalIn, run_underlying hu]
  · exact h.elim

theorem eqFields_ok {P : Program} : ∀ (fs : List Field) (ps : List PK) (n : Nat) (xs ys : List A) (Q : A → Prop), fieldsAre P n fs ps = true → pksFit ps xs = true → pksFit ps ys = true → eqCells xs ys Q →
    ∃ b, Q (.d (.bool b)) ∧ ∀ (d : Nat) (w : World) I ι H (vx vy : List Value), vx.length = n + xs.length → vy.length = n + ys.length → (∀ k, k < xs.length → RepA w I ι H (vx.getD (n + k) undef) (xs.getD k .undef)) → (∀ k, k < ys.length → RepA w I ι H (vy.getD (n + k) undef) (ys.getD k .undef)) →
      (Op.eqFields (d + 1) vx.toArray vy.toArray fs).run P w = .ok b w
  | [], [], n, xs, ys, Q, _, hx, hy, h => by
    cases xs <;> cases ys <;> simp [pksFit] at hx hy
    exact ⟨true, h, fun d w I ι H vx vy _ _ _ _ => by simp [Op.eqFields]⟩
  | f :: fs, p :: ps, n, xs, ys, Q, hf, hx, hy, h => by
    cases xs with
    | nil => simp [pksFit] at hx
    | cons x xs =>
    cases ys with
    | nil => simp [pksFit] at hy
    | cons y ys =>
    simp only [pksFit, Bool.and_eq_true] at hx hy
    simp only [fieldsAre, Bool.and_eq_true, decide_eq_true_eq, Nat.beq_eq] at hf
    obtain ⟨⟨⟨hn, ho⟩, hp⟩, hr⟩ := hf
    have hpart : ∀ (w : World) (vs : List Value), n < vs.length → (isAgg f.type).run P w = .ok false w → (part f.type vs.toArray f.offset).run P w = .ok (vs.getD n undef) w := fun w vs hl ha => by
      simp [part, ha, ho, List.getElem?_eq_getElem hl, List.getD_eq_getElem?_getD]
    -- the first cell, then the others
    have main : ∀ (b c : Bool) (d : Nat) (w : World) I ι H (vx vy : List Value), vx.length = n + (x :: xs).length → vy.length = n + (y :: ys).length → (∀ k, k < (x :: xs).length → RepA w I ι H (vx.getD (n + k) undef) ((x :: xs).getD k .undef)) → (∀ k, k < (y :: ys).length → RepA w I ι H (vy.getD (n + k) undef) ((y :: ys).getD k .undef)) →
        (∀ (d : Nat) (w : World) I ι H vx vy, RepA w I ι H vx x → RepA w I ι H vy y → (isAgg f.type).run P w = .ok false w ∧ (Op.equalIn (d + 1) f.type vx vy).run P w = .ok b w) →
        (Op.eqFields (d + 1) vx.toArray vy.toArray fs).run P w = .ok c w → (Op.eqFields (d + 1) vx.toArray vy.toArray (f :: fs)).run P w = .ok (b && c) w := by
      intro b c d w I ι H vx vy l1 l2 r1 r2 hb hc
      have r10 := r1 0 (by simp)
      have r20 := r2 0 (by simp)
      simp only [Nat.add_zero, List.getD_cons_zero] at r10 r20
      obtain ⟨ha, he⟩ := hb d w I ι H _ _ r10 r20
      have p1 := hpart w vx (by simp at l1; omega) ha
      have p2 := hpart w vy (by simp at l2; omega) ha
      rw [Op.eqFields]
      simp only [if_pos hn, Sem.run_bind, p1, p2, he, Result.andThen_ok]
      cases b
      · simp
      · simpa using hc
    by_cases hlast : xs = [] ∧ ys = []
    · obtain ⟨rfl, rfl⟩ := hlast
      simp only [eqCells] at h
      obtain ⟨b, hb, hbr⟩ := pk_eq hp hx.1 hy.1 h
      refine ⟨b, hb, fun d w I ι H vx vy l1 l2 r1 r2 => ?_⟩
      have hps : ps = [] := by cases ps with | nil => rfl | cons _ _ => simp [pksFit] at hx
      have hfs : fs = [] := by subst hps; cases fs with | nil => rfl | cons _ _ => simp [fieldsAre] at hr
      subst hfs
      have := main b true d w I ι H vx vy l1 l2 r1 r2 hbr (by simp [Op.eqFields])
      simpa using this
    · have h' : eqLeaf x y (fun b => eqCells xs ys (fun r => match r with | .d (.bool c) => Q (.d (.bool (andB b c))) | _ => False)) := by
        cases xs with
        | nil => cases ys with
          | nil => exact absurd ⟨rfl, rfl⟩ hlast
          | cons _ _ => exact h
        | cons _ _ => exact h
      obtain ⟨b, hb, hbr⟩ := pk_eq hp hx.1 hy.1 h'
      obtain ⟨c, hc, hcr⟩ := eqFields_ok fs ps (n + 1) xs ys _ hr hx.2 hy.2 hb
      refine ⟨b && c, by rw [← andB_eq]; exact hc, fun d w I ι H vx vy l1 l2 r1 r2 => ?_⟩
      exact main b c d w I ι H vx vy l1 l2 r1 r2 hbr (hcr d w I ι H vx vy (by simp at l1; omega) (by simp at l2; omega) (fun k hk => by
        have := r1 (k + 1) (by simpa using hk)
        simpa [show n + (k + 1) = n + 1 + k by omega] using this) (fun k hk => by
        have := r2 (k + 1) (by simpa using hk)
        simpa [show n + (k + 1) = n + 1 + k by omega] using this))
  | [], _ :: _, n, xs, ys, Q, hf, _, _, _ => by simp [fieldsAre] at hf
  | _ :: _, [], n, xs, ys, Q, hf, _, _, _ => by simp [fieldsAre] at hf

theorem eqTi_ok {P : Program} {t : Nat} {ps : List PK} (h : eqTiOk P t ps = true) : EqOk P t (eqPlain ps) := by
  unfold eqTiOk at h
  split at h
  · rename_i fs hu
    simp only [Bool.and_eq_true, Bool.not_eq_true'] at h
    obtain ⟨⟨⟨h1, h2⟩, h3⟩, h4⟩ := h
    intro xs ys Q ⟨hx, hy, hq⟩
    obtain ⟨b, hb, hbr⟩ := eqFields_ok fs.toList ps 0 xs ys Q h1 hx hy hq
    refine ⟨b, hb, fun w I ι H vx vy r1 r2 => ⟨fun op x y => run_eqGuard_agg _ op t x y vx vy h3, ?_⟩⟩
    cases r1 with | agg vs _ l1 c1 =>
    cases r2 with | agg vs' _ l2 c2 =>
    have := hbr 9998 w I ι H vs vs' (by omega) (by omega) (fun k hk => by simpa using c1 k hk) (fun k hk => by simpa using c2 k hk)
    have hf : P.fieldsOf t = fs := by simp [Program.fieldsOf, hu]
    have hrun := run_equalIn_struct (P := P) w 9999 t vs.toArray vs'.toArray (by rw [hf]; exact hu) h2
    rw [hf] at hrun
    unfold Op.equal
    exact hrun.trans this
  · cases h

theorem eqLeaf_mono {x y : A} {K K' : Bool → Prop} (hk : ∀ b, K b → K' b) (h : eqLeaf x y K) : eqLeaf x y K' := by
  unfold eqLeaf at h ⊢
  split at h
  · simp only [Imp_eq] at h ⊢
    exact ⟨h.1, fun e => hk _ (h.2.1 e), fun e => hk _ (h.2.2 e)⟩
  · simp only [Imp_eq] at h ⊢
    exact ⟨fun e => hk _ (h.1 e), fun e => hk _ (h.2 e)⟩
  · exact hk _ h
  · exact h

theorem eqCells_mono : ∀ {xs ys : List A} {Q Q' : A → Prop}, (∀ a, Q a → Q' a) → eqCells xs ys Q → eqCells xs ys Q'
  | [], [], Q, Q', hq, h => hq _ h
  | [x], [y], Q, Q', hq, h => eqLeaf_mono (K := fun b => Q (.d (.bool b))) (fun b h => hq _ h) h
  | [x], y :: y' :: ys, Q, Q', hq, h => eqLeaf_mono (K := fun b => eqCells [] (y' :: ys) _) (fun b h => eqCells_mono (fun a => by split <;> first | exact hq _ | exact id) h) h
  | x :: x' :: xs, [y], Q, Q', hq, h => eqLeaf_mono (K := fun b => eqCells (x' :: xs) [] _) (fun b h => eqCells_mono (fun a => by split <;> first | exact hq _ | exact id) h) h
  | x :: x' :: xs, y :: y' :: ys, Q, Q', hq, h => eqLeaf_mono (K := fun b => eqCells (x' :: xs) (y' :: ys) _) (fun b h => eqCells_mono (fun a => by split <;> first | exact hq _ | exact id) h) h
  | [], _ :: _, _, _, _, h => h.elim
  | [_], [], _, _, _, h => h.elim
  | _ :: _ :: _, [], _, _, _, h => h.elim

/-! ### The table -/
structure Tables where
  tree : TT
  n : Nat
  eqs : List (Nat × List PK)
  m : Nat
  bare : List Nat

def findEq : List (Nat × List PK) → Nat → Option (List PK)
  | [], _ => none
  | (t, ps) :: r, k => match Nat.beq t k with
    | true => some ps
    | false => findEq r k

def hasN : List Nat → Nat → Bool
  | [], _ => false
  | a :: r, k => match Nat.beq a k with
    | true => true
    | false => hasN r k

def Tables.tab (S : Tables) : Tab where
  ti t := match Nat.blt t S.n with
    | true => S.tree.get 20 t
    | false => none
  eq t := match findEq S.eqs t with
    | some ps => some (eqPlain ps)
    | none => none
  fn f := Nat.blt f S.m && !hasN S.bare f

def fnOk (P : Program) (f : Nat) : Bool :=
  match P.funcs[f]? with
  | some fn => !fn.body.isNone && !(fn.name == "runtime.NumGoroutine")
  | none => false

def Tables.ok (S : Tables) (P : Program) : Bool :=
  ((List.range S.n).all fun t => match S.tree.get 20 t with
    | some i => tiOk P t i
    | none => true) &&
  (S.eqs.all fun (t, ps) => eqTiOk P t ps) &&
  ((List.range S.m).all fun f => hasN S.bare f || fnOk P f) && P.follows .mixedOrders

theorem findEq_mem : ∀ {l : List (Nat × List PK)} {t : Nat} {ps : List PK}, findEq l t = some ps → (t, ps) ∈ l
  | [], _, _, h => by cases h
  | (a, qs) :: r, t, ps, h => by
    simp only [findEq] at h
    split at h
    · rename_i e
      cases h
      rw [Nat.beq_eq] at e
      subst e
      exact List.mem_cons_self
    · exact List.mem_cons_of_mem _ (findEq_mem h)

theorem Tables.tabOk0 {S : Tables} {P : Program} (h : S.ok P = true) : TabOk P S.tab := by
  simp only [Tables.ok, Bool.and_eq_true, List.all_eq_true, List.mem_range] at h
  obtain ⟨⟨⟨h1, h2⟩, h3⟩, hm⟩ := h
  refine ⟨fun t i hi => ?_, fun t e he => ?_, fun f hf => ?_, hm, fun t e xs ys Q Q' he hq h => ?_⟩
  · simp only [Tables.tab] at hi
    split at hi
    · rename_i hlt
      rw [Nat.blt_eq] at hlt
      have := h1 t hlt
      rw [hi] at this
      exact tiOk_ok this
    · cases hi
  · simp only [Tables.tab] at he
    split at he
    · rename_i ps hps
      cases he
      exact eqTi_ok (h2 _ (findEq_mem hps))
    · cases he
  · simp only [Tables.tab, Bool.and_eq_true, Nat.blt_eq, Bool.not_eq_true'] at hf
    have := h3 f hf.1
    rw [hf.2, Bool.false_or] at this
    unfold fnOk at this
    split at this
    · rename_i fn hfn
      simp only [Bool.and_eq_true, Bool.not_eq_true'] at this
      exact ⟨fn, hfn, this.1, this.2⟩
    · cases this
  · simp only [Tables.tab] at he
    split at he
    · cases he
      exact ⟨h.1, h.2.1, eqCells_mono hq h.2.2⟩
    · cases he

omit [Glb] [Lim] in
theorem Tables.tabOk {S : Tables} {P : Program} (h : S.ok P = true) : TabOk P S.tab :=
  let _ : Lim := ⟨fun _ _ => True⟩
  let _ : Glb := ⟨fun _ _ _ => True⟩
  Tables.tabOk0 h

end Go.VM
