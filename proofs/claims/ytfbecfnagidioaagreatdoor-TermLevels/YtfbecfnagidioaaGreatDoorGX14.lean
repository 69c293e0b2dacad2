/- Part of the proof: MT3, TP6, TT40, TT53, TT44, TP5, TT45, TP7, TT42. -/
import Derived.Test.YtfbecfnagidioaaGreatDoorGX7
import Derived.Test.YtfbecfnagidioaaGreatDoorGV6
import Derived.Test.YtfbecfnagidioaaGreatDoorGV5
import Derived.Test.YtfbecfnagidioaaGreatDoorGX10
import Derived.Test.YtfbecfnagidioaaGreatDoorGX13
import Derived.Test.YtfbecfnagidioaaGreatDoorGX8
/- Terms mapped: shifted, filled, copied, their free variables. -/
namespace Go.VM
open Go
set_option linter.unusedVariables false
set_option linter.unusedSimpArgs false
/-- how many variables a part binds -/
def bindI (op : Int) (m : Nat) (i : Int) : Int := if i < 0 ∨ (m : Int) ≤ i then 0 else if (op = 5 ∨ op = 6 ∨ op = 8 ∨ op = 9 ∨ op = 20) ∧ i = 1 then 1 else if op = 23 ∧ i = 1 then 2 else if op = 25 ∧ (i = 1 ∨ i = 2) then 1 else if op = 28 ∧ i = 0 then 2 else if op = 28 ∧ i < (m : Int) - 2 then 3 else 0
theorem bindI_le (op : Int) (m : Nat) (i : Int) : 0 ≤ bindI op m i ∧ bindI op m i ≤ 3 := by
  unfold bindI
  repeat' split
  all_goals omega
theorem bindI_0 (m : Nat) (i : Int) : bindI 1 m i = 0 := by
  unfold bindI
  repeat' split
  all_goals omega
/-- a variable whose number counts -/
def IsV (op n : Int) : Prop := op = 1 ∧ 0 ≤ n ∧ n ≤ 2147483648
instance (op n : Int) : Decidable (IsV op n) := inferInstanceAs (Decidable (_ ∧ _))
/-- a term, each variable in it replaced, from the leaves on -/
def mapT (f : Tm → Int → Tm) : Tm → Int → Tm
  | .mk op n s k C N W Q m ok L, d =>
    if IsV op n then f (.mk op n s k C N W Q m ok fun i => mapT f (L i) (d + bindI op m i.1)) d else .mk op n s k C N W Q m ok fun i => mapT f (L i) (d + bindI op m i.1)
def foldF {Y : Type} (g : Nat → Y → Y) : Nat → Y → Y
  | 0, y => y
  | n + 1, y => g n (foldF g n y)
theorem foldF_congr {Y : Type} {g h : Nat → Y → Y} : ∀ {n : Nat} {y : Y}, (∀ i z, i < n → g i z = h i z) → foldF g n y = foldF h n y
  | 0, _, _ => rfl
  | n + 1, y, e => by simp only [foldF]; rw [foldF_congr fun i z hi => e i z (by omega), e n _ (by omega)]
/-- what is noted on the way -/
def runT {Y : Type} (f : Int → Int → Y → Y) : Tm → Int → Y → Y
  | .mk op n s k C N W Q m ok L, d, y =>
    if IsV op n then f n d (foldF (fun i z => if h : i < m then runT f (L ⟨i, h⟩) (d + bindI op m i) z else z) m y) else foldF (fun i z => if h : i < m then runT f (L ⟨i, h⟩) (d + bindI op m i) z else z) m y
section
variable {op n : Int} {s : ByteArray} {k : Nat} {C : Nat → Int} {N : Nat → Nat} {W Q : Nat → Nat → Int} {m : Nat} {ok : TmOk op n s k N m} {K : Nat → Tm}
theorem mapT_nd (f : Tm → Int → Tm) (d : Int) : mapT f (.nd op n s k C N W Q m ok K) d =
    if IsV op n then f (.nd op n s k C N W Q m ok fun i => mapT f (K i) (d + bindI op m i)) d else .nd op n s k C N W Q m ok fun i => mapT f (K i) (d + bindI op m i) := by
  simp only [Tm.nd, mapT]
theorem runT_nd {Y : Type} (f : Int → Int → Y → Y) (d : Int) (y : Y) : runT f (.nd op n s k C N W Q m ok K) d y =
    if IsV op n then f n d (foldF (fun i z => runT f (K i) (d + bindI op m i) z) m y) else foldF (fun i z => runT f (K i) (d + bindI op m i) z) m y := by
  have e : ∀ y, foldF (fun i z => if h : i < m then runT f (K i) (d + bindI op m i) z else z) m y = foldF (fun i z => runT f (K i) (d + bindI op m i) z) m y := fun y => foldF_congr fun i z hi => dif_pos hi
  simp only [Tm.nd, runT, e]
/-- two terms whose parts are the same -/
theorem nd_congr {K' : Nat → Tm} (h : ∀ i, i < m → K i = K' i) : Tm.nd op n s k C N W Q m ok K = .nd op n s k C N W Q m ok K' := by
  unfold Tm.nd
  exact congrArg _ (funext fun i => h i i.2)
theorem tm_nd (G : Nat → Nat → D) : tm (.nd op n s k C N W Q m ok K) = .agg [.d (.int .i64 op), .d (.int .i64 n), .d (.str s), .d (.sl k 2 (lsF C N W Q)), .d (.sl m 5 (fun i j => if i < m then tmD (K i) j else .nilp))] := by
  unfold tm
  obtain ⟨h0, h1, h2, h3, h4⟩ := tmD_nd op n s k C N W Q m ok K
  rw [h0, h1, h2, h3, h4]
  simp only [dite_eq_ite]
end
/-- a whole number, as it is in the machine -/
def clampI (x : Int) : Int := if -9223372036854775808 ≤ x ∧ x ≤ 9223372036854775807 then x else 0
theorem clampI_ok (x : Int) : -9223372036854775808 ≤ clampI x ∧ clampI x ≤ 9223372036854775807 := by unfold clampI; split <;> omega
theorem clampI_eq {x : Int} (h : -9223372036854775808 ≤ x ∧ x ≤ 9223372036854775807) : clampI x = x := if_pos h
/-- another number -/
def setN (n' : Int) : Tm → Tm
  | .mk op n s k C N W Q m ok L => .mk op (clampI n') s k C N W Q m ⟨ok.op, clampI_ok n', ok.s, ok.k, ok.N, ok.m⟩ L
def numT : Tm → Int
  | .mk op n s k C N W Q m ok L => n
/-- a variable shifted -/
def fSh (by' frm : Int) (x : Tm) (d : Int) : Tm := if frm ≤ numT x - d then setN (numT x + by') x else x
def stSh (by' frm : Int) (n d : Int) (y : Bool) : Bool := if frm ≤ n - d then y && decide (frm ≤ n + by' - d) else y
def stFr (n d : Int) (y : Int) : Int := max y (n - d + 1)
/-- all variables stay from the first one on -/
def OkT (by' frm : Int) : Tm → Int → Prop
  | .mk op n s k C N W Q m ok L, d => (IsV op n → frm ≤ n - d → frm ≤ n + by' - d) ∧ ∀ i : Fin m, OkT by' frm (L i) (d + bindI op m i.1)
/-- how far the free variables reach -/
def freeT : Tm → Int → Int
  | .mk op n s k C N W Q m ok L, d => foldF (fun i z => if h : i < m then max z (freeT (L ⟨i, h⟩) (d + bindI op m i)) else z) m (if IsV op n then max 0 (n - d + 1) else 0)
section
variable {op n : Int} {s : ByteArray} {k : Nat} {C : Nat → Int} {N : Nat → Nat} {W Q : Nat → Nat → Int} {m : Nat} {ok : TmOk op n s k N m} {K : Nat → Tm}
theorem OkT_nd (by' frm d : Int) : OkT by' frm (.nd op n s k C N W Q m ok K) d ↔ (IsV op n → frm ≤ n - d → frm ≤ n + by' - d) ∧ ∀ i : Nat, i < m → OkT by' frm (K i) (d + bindI op m i) := by
  have e : OkT by' frm (.nd op n s k C N W Q m ok K) d ↔ (IsV op n → frm ≤ n - d → frm ≤ n + by' - d) ∧ ∀ i : Fin m, OkT by' frm (K i) (d + bindI op m i.1) := by simp only [Tm.nd, OkT]
  rw [e]
  exact and_congr Iff.rfl ⟨fun h i hi => h ⟨i, hi⟩, fun h i => h i i.2⟩
theorem freeT_nd (d : Int) : freeT (.nd op n s k C N W Q m ok K) d = foldF (fun i z => max z (freeT (K i) (d + bindI op m i))) m (if IsV op n then max 0 (n - d + 1) else 0) := by
  have e : ∀ y, foldF (fun i z => if h : i < m then max z (freeT (K i) (d + bindI op m i)) else z) m y = foldF (fun i z => max z (freeT (K i) (d + bindI op m i))) m y := fun y => foldF_congr fun i z hi => dif_pos hi
  simp only [Tm.nd, freeT, e]
end
theorem foldF_and {P : Nat → Prop} {g : Nat → Bool → Bool} (y : Bool) : ∀ {n : Nat}, (∀ i z, i < n → (g i z = true ↔ z = true ∧ P i)) → (foldF g n y = true ↔ y = true ∧ ∀ i, i < n → P i)
  | 0, _ => ⟨fun h => ⟨h, fun i hi => absurd hi (Nat.not_lt_zero _)⟩, fun h => h.1⟩
  | n + 1, e => by
    simp only [foldF]
    rw [e n _ (by omega), foldF_and y fun i z hi => e i z (by omega)]
    constructor
    · rintro ⟨⟨h1, h2⟩, h3⟩
      refine ⟨h1, fun i hi => ?_⟩
      by_cases e2 : i = n
      · subst e2; exact h3
      · exact h2 i (by omega)
    · rintro ⟨h1, h2⟩
      exact ⟨⟨h1, fun i hi => h2 i (by omega)⟩, h2 n (by omega)⟩
theorem runT_sh (by' frm : Int) (t : Tm) : ∀ d y, (runT (stSh by' frm) t d y = true ↔ y = true ∧ OkT by' frm t d) := by
  refine Tm.walk (P := fun t => ∀ d y, (runT (stSh by' frm) t d y = true ↔ y = true ∧ OkT by' frm t d)) ?_ t
  intro op n s k C N W Q m ok K G _ _ ih d y
  rw [runT_nd, OkT_nd]
  have hf := foldF_and (P := fun i => OkT by' frm (K i) (d + bindI op m i)) (g := fun i z => runT (stSh by' frm) (K i) (d + bindI op m i) z) y (n := m) fun i z hi => ih i hi _ z
  split
  · rename_i hv
    show (if frm ≤ n - d then foldF (fun i z => runT (stSh by' frm) (K i) (d + bindI op m i) z) m y && decide (frm ≤ n + by' - d) else foldF (fun i z => runT (stSh by' frm) (K i) (d + bindI op m i) z) m y) = true ↔ _
    split
    · rename_i h
      rw [Bool.and_eq_true, hf, decide_eq_true_iff]
      constructor
      · rintro ⟨⟨h1, h2⟩, h3⟩; exact ⟨h1, fun _ _ => h3, h2⟩
      · rintro ⟨h1, h2, h3⟩; exact ⟨⟨h1, h3⟩, h2 hv h⟩
    · rename_i h
      rw [hf]
      constructor
      · rintro ⟨h1, h2⟩; exact ⟨h1, fun _ h3 => absurd h3 h, h2⟩
      · rintro ⟨h1, _, h3⟩; exact ⟨h1, h3⟩
  · rename_i hv
    rw [hf]
    constructor
    · rintro ⟨h1, h2⟩; exact ⟨h1, fun h3 => absurd h3 hv, h2⟩
    · rintro ⟨h1, _, h3⟩; exact ⟨h1, h3⟩
theorem foldF_max {a : Nat → Int} (x y : Int) : ∀ n, foldF (fun i z => max z (a i)) n (max x y) = max x (foldF (fun i z => max z (a i)) n y)
  | 0 => rfl
  | n + 1 => by simp only [foldF]; rw [foldF_max]; omega
theorem foldF_ge {a : Nat → Int} (y : Int) : ∀ n, y ≤ foldF (fun i z => max z (a i)) n y
  | 0 => Int.le_refl _
  | n + 1 => by have := foldF_ge (a := a) y n; simp only [foldF]; omega
theorem freeT_ge (t : Tm) (d : Int) : 0 ≤ freeT t d := by
  refine Tm.walk (P := fun t => ∀ d, 0 ≤ freeT t d) ?_ t d
  intro op n s k C N W Q m ok K G _ _ _ d
  rw [freeT_nd]
  have := foldF_ge (a := fun i => freeT (K i) (d + bindI op m i)) (if IsV op n then max 0 (n - d + 1) else 0) m
  have h0 : (0 : Int) ≤ if IsV op n then max 0 (n - d + 1) else 0 := by split <;> omega
  omega
theorem runT_fr (t : Tm) : ∀ d y, 0 ≤ y → runT stFr t d y = max y (freeT t d) := by
  refine Tm.walk (P := fun t => ∀ d y, 0 ≤ y → runT stFr t d y = max y (freeT t d)) ?_ t
  intro op n s k C N W Q m ok K G _ _ ih d y hy
  rw [runT_nd, freeT_nd]
  have hf : ∀ j, j ≤ m → foldF (fun i z => runT stFr (K i) (d + bindI op m i) z) j y = foldF (fun i z => max z (freeT (K i) (d + bindI op m i))) j y := by
    intro j
    induction j with
    | zero => intro _; rfl
    | succ j ihj =>
      intro hj
      simp only [foldF]
      rw [ihj (by omega)]
      have h := foldF_ge (a := fun i => freeT (K i) (d + bindI op m i)) y j
      exact ih j (by omega) _ _ (by omega)
  rw [hf m (Nat.le_refl _)]
  have h := foldF_ge (a := fun i => freeT (K i) (d + bindI op m i)) y m
  have h2 := foldF_max (a := fun i => freeT (K i) (d + bindI op m i)) y 0 m
  rw [Int.max_eq_left hy] at h2
  have h3 := foldF_ge (a := fun i => freeT (K i) (d + bindI op m i)) 0 m
  split
  · unfold stFr
    have e : max (0 : Int) (n - d + 1) = max (n - d + 1) 0 := Int.max_comm _ _
    rw [e, foldF_max]
    omega
  · rw [h2]
end Go.VM

/- Levels put into a term; the level variables, the names and the holes of a term. -/
namespace Go.VM
open Go
set_option linter.unusedVariables false
set_option linter.unusedSimpArgs false
/-- what is put in for a level: its number and its parts -/
abbrev LvF := Int → Nat → (Nat → Int) → (Nat → Int) → Int × List Pt
def fit8 (x : Int × List Pt) : Int × List Pt := if x.2.length ≤ 8 then x else (x.1, [])
theorem fit8_eq {x : Int × List Pt} (h : x.2.length ≤ 8) : fit8 x = x := if_pos h
theorem fit8_le (x : Int × List Pt) : (fit8 x).2.length ≤ 8 := by unfold fit8; split <;> simp_all
section
variable (g : LvF) (C : Nat → Int) (N : Nat → Nat) (W Q : Nat → Nat → Int)
def guC (i : Nat) : Int := (fit8 (g (C i) (N i) (W i) (Q i))).1
def guN (i : Nat) : Nat := (fit8 (g (C i) (N i) (W i) (Q i))).2.length
def guW (i j : Nat) : Int := ((fit8 (g (C i) (N i) (W i) (Q i))).2.getD j (0, 0)).1
def guQ (i j : Nat) : Int := ((fit8 (g (C i) (N i) (W i) (Q i))).2.getD j (0, 0)).2
theorem guN_le (i : Nat) : guN g C N W Q i ≤ 8 := fit8_le _
end
theorem TmOk.setL {op n : Int} {s : ByteArray} {k : Nat} {N : Nat → Nat} {m : Nat} (h : TmOk op n s k N m) (g : LvF) (C : Nat → Int) (W Q : Nat → Nat → Int) : TmOk op n s k (guN g C N W Q) m :=
  ⟨h.op, h.n, h.s, h.k, fun i => by have := guN_le g C N W Q i; omega, h.m⟩
/-- a term with other levels -/
def setT (g : LvF) : Tm → Tm
  | .mk op n s k C N W Q m ok L => .mk op n s k (guC g C N W Q) (guN g C N W Q) (guW g C N W Q) (guQ g C N W Q) m (ok.setL g C W Q) fun i => setT g (L i)
/-- the first number that is not 0 -/
def firstF (f : Nat → Int) : Nat → Int
  | 0 => 0
  | n + 1 => if firstF f n ≠ 0 then firstF f n else f n
theorem firstF_zero {f : Nat → Int} : ∀ {n : Nat}, firstF f n = 0 ↔ ∀ i, i < n → f i = 0
  | 0 => ⟨fun _ i hi => absurd hi (Nat.not_lt_zero _), fun _ => rfl⟩
  | n + 1 => by
    simp only [firstF]
    constructor
    · intro h i hi
      split at h
      · rename_i h2; exact absurd h h2
      · rename_i h2
        by_cases e : i = n
        · subst e; exact h
        · exact firstF_zero.1 (Decidable.not_not.1 h2) i (by omega)
    · intro h
      rw [if_neg (by rw [Decidable.not_not]; exact firstF_zero.2 fun i hi => h i (by omega))]
      exact h n (by omega)
theorem firstF_at {f : Nat → Int} : ∀ {n i : Nat}, (∀ j, j < i → f j = 0) → i < n → f i ≠ 0 → firstF f n = f i
  | 0, i, _, hi, _ => absurd hi (Nat.not_lt_zero _)
  | n + 1, i, h, hi, he => by
    simp only [firstF]
    by_cases e : i = n
    · subst e
      rw [if_neg (by rw [Decidable.not_not]; exact firstF_zero.2 h)]
    · have := firstF_at h (n := n) (by omega) he
      rw [if_pos (by rw [this]; exact he), this]
theorem firstF_congr {f g : Nat → Int} : ∀ {n : Nat}, (∀ i, i < n → f i = g i) → firstF f n = firstF g n
  | 0, _ => rfl
  | n + 1, h => by simp only [firstF]; rw [firstF_congr fun i hi => h i (by omega), h n (by omega)]
/-- the first fault of a term's levels -/
def errT (e : Int → Nat → (Nat → Int) → (Nat → Int) → Int) : Tm → Int
  | .mk op n s k C N W Q m ok L => if firstF (fun i => e (C i) (N i) (W i) (Q i)) k ≠ 0 then firstF (fun i => e (C i) (N i) (W i) (Q i)) k else firstF (fun i => if h : i < m then errT e (L ⟨i, h⟩) else 0) m
/-- a number is one of a term's level variables -/
def memV : Tm → Int → Prop
  | .mk op n s k C N W Q m ok L, v => (∃ i, i < k ∧ ∃ j, j < N i ∧ W i j = v) ∨ ∃ i : Fin m, memV (L i) v
/-- a number is one of a term's holes -/
def memH : Tm → Int → Prop
  | .mk op n s k C N W Q m ok L, v => (op = 29 ∧ n = v) ∨ ∃ i : Fin m, memH (L i) v
/-- a node that has a name -/
def IsM (op : Int) : Prop := op = 2 ∨ op = 26 ∨ op = 27 ∨ op = 28
open Classical in
noncomputable def addN (op : Int) (s : ByteArray) (l : List ByteArray) : List ByteArray := if IsM op ∧ s ∉ l then l ++ [s] else l
/-- the names of a term, behind other ones -/
noncomputable def nmsT : Tm → List ByteArray → List ByteArray
  | .mk op n s k C N W Q m ok L, l => foldF (fun i z => if h : i < m then nmsT (L ⟨i, h⟩) z else z) m (addN op s l)
theorem addN_le (op : Int) (s : ByteArray) (l : List ByteArray) : l.length ≤ (addN op s l).length ∧ (addN op s l).length ≤ l.length + 1 := by
  unfold addN
  split
  · simp
  · omega
section
variable {op n : Int} {s : ByteArray} {k : Nat} {C : Nat → Int} {N : Nat → Nat} {W Q : Nat → Nat → Int} {m : Nat} {ok : TmOk op n s k N m} {K : Nat → Tm}
theorem setT_nd (g : LvF) : setT g (.nd op n s k C N W Q m ok K) = .nd op n s k (guC g C N W Q) (guN g C N W Q) (guW g C N W Q) (guQ g C N W Q) m (ok.setL g C W Q) fun i => setT g (K i) := by
  simp only [Tm.nd, setT]
theorem errT_nd (e : Int → Nat → (Nat → Int) → (Nat → Int) → Int) : errT e (.nd op n s k C N W Q m ok K) = if firstF (fun i => e (C i) (N i) (W i) (Q i)) k ≠ 0 then firstF (fun i => e (C i) (N i) (W i) (Q i)) k else firstF (fun i => errT e (K i)) m := by
  have h : firstF (fun i => if h : i < m then errT e (K i) else 0) m = firstF (fun i => errT e (K i)) m := firstF_congr fun i hi => dif_pos hi
  simp only [Tm.nd, errT, h]
theorem memV_nd (v : Int) : memV (.nd op n s k C N W Q m ok K) v ↔ (∃ i, i < k ∧ ∃ j, j < N i ∧ W i j = v) ∨ ∃ i : Nat, i < m ∧ memV (K i) v := by
  have e : memV (.nd op n s k C N W Q m ok K) v ↔ (∃ i, i < k ∧ ∃ j, j < N i ∧ W i j = v) ∨ ∃ i : Fin m, memV (K i) v := by simp only [Tm.nd, memV]
  rw [e]
  exact or_congr Iff.rfl ⟨fun ⟨i, h⟩ => ⟨i, i.2, h⟩, fun ⟨i, hi, h⟩ => ⟨⟨i, hi⟩, h⟩⟩
theorem memH_nd (v : Int) : memH (.nd op n s k C N W Q m ok K) v ↔ (op = 29 ∧ n = v) ∨ ∃ i : Nat, i < m ∧ memH (K i) v := by
  have e : memH (.nd op n s k C N W Q m ok K) v ↔ (op = 29 ∧ n = v) ∨ ∃ i : Fin m, memH (K i) v := by simp only [Tm.nd, memH]
  rw [e]
  exact or_congr Iff.rfl ⟨fun ⟨i, h⟩ => ⟨i, i.2, h⟩, fun ⟨i, hi, h⟩ => ⟨⟨i, hi⟩, h⟩⟩
theorem nmsT_nd (l : List ByteArray) : nmsT (.nd op n s k C N W Q m ok K) l = foldF (fun i z => nmsT (K i) z) m (addN op s l) := by
  have e : ∀ y, foldF (fun i z => if h : i < m then nmsT (K i) z else z) m y = foldF (fun i z => nmsT (K i) z) m y := fun y => foldF_congr fun i z hi => dif_pos hi
  simp only [Tm.nd, nmsT, e]
end
theorem foldF_len {g : Nat → List ByteArray → List ByteArray} {b : Nat → Nat} : ∀ {n : Nat} {y : List ByteArray}, (∀ i z, i < n → z.length ≤ (g i z).length ∧ (g i z).length ≤ z.length + b i) → y.length ≤ (foldF g n y).length ∧ (foldF g n y).length ≤ y.length + sumF b n
  | 0, y, _ => ⟨Nat.le_refl _, Nat.le_refl _⟩
  | n + 1, y, h => by
    have h1 := foldF_len (n := n) (y := y) fun i z hi => h i z (by omega)
    have h2 := h n (foldF g n y) (by omega)
    simp only [foldF, sumF]
    omega
theorem nmsT_len (t : Tm) : ∀ l, l.length ≤ (nmsT t l).length ∧ (nmsT t l).length ≤ l.length + nodesT t := by
  refine Tm.walk (P := fun t => ∀ l, l.length ≤ (nmsT t l).length ∧ (nmsT t l).length ≤ l.length + nodesT t) ?_ t
  intro op n s k C N W Q m ok K G _ _ ih l
  rw [nmsT_nd, nodesT_nd]
  have h1 := addN_le op s l
  have h2 := foldF_len (g := fun i z => nmsT (K i) z) (b := fun i => nodesT (K i)) (n := m) (y := addN op s l) fun i z hi => ih i hi z
  omega
theorem nmsT_set (g : LvF) (t : Tm) : ∀ l, nmsT (setT g t) l = nmsT t l := by
  refine Tm.walk (P := fun t => ∀ l, nmsT (setT g t) l = nmsT t l) ?_ t
  intro op n s k C N W Q m ok K G _ _ ih l
  rw [setT_nd, nmsT_nd, nmsT_nd]
  exact foldF_congr fun i z hi => ih i hi z
theorem freeT_set (g : LvF) (t : Tm) : ∀ d, freeT (setT g t) d = freeT t d := by
  refine Tm.walk (P := fun t => ∀ d, freeT (setT g t) d = freeT t d) ?_ t
  intro op n s k C N W Q m ok K G _ _ ih d
  rw [setT_nd, freeT_nd, freeT_nd]
  exact foldF_congr fun i z hi => by rw [ih i hi]
theorem nodesT_set (g : LvF) (t : Tm) : nodesT (setT g t) ≤ 9 * nodesT t := by
  refine Tm.walk (P := fun t => nodesT (setT g t) ≤ 9 * nodesT t) ?_ t
  intro op n s k C N W Q m ok K G _ _ ih
  rw [setT_nd, nodesT_nd, nodesT_nd]
  have h1 : sumF (fun i => 1 + guN g C N W Q i) k ≤ 9 * sumF (fun i => 1 + N i) k := by
    have : ∀ j, sumF (fun i => 1 + guN g C N W Q i) j ≤ 9 * sumF (fun i => 1 + N i) j := fun j => by
      induction j with
      | zero => exact Nat.le_refl _
      | succ j ihj => have := guN_le g C N W Q j; simp only [sumF]; omega
    exact this k
  have h2 : ∀ j, j ≤ m → sumF (fun i => nodesT (setT g (K i))) j ≤ 9 * sumF (fun i => nodesT (K i)) j := fun j => by
    induction j with
    | zero => exact fun _ => Nat.le_refl _
    | succ j ihj => intro hj; have := ihj (by omega); have := ih j (by omega); simp only [sumF]; omega
  have := h2 m (Nat.le_refl _)
  omega
/-- a list of texts -/
def stF (S : Nat → ByteArray) : Nat → Nat → D := fun i _ => .str (S i)
/-- ascending numbers, of which is told which they are -/
def AscM (S : Int → Prop) (m : Nat) (U : Nat → Int) : Prop := (numsL U m).Pairwise (· < ·) ∧ ∀ v, v ∈ numsL U m ↔ S v
theorem AscM.ext {S S' : Int → Prop} (hS : ∀ v, S v ↔ S' v) {m m' : Nat} {U U' : Nat → Int} (h : AscM S m U) (h' : AscM S' m' U') : m' = m ∧ ∀ j, j < m → U' j = U j := by
  have e := asc_list_ext h.1 h'.1 fun x => (h.2 x).trans ((hS x).trans (h'.2 x).symm)
  have hm : m' = m := by have := congrArg List.length e; rw [numsL_length, numsL_length] at this; exact this.symm
  refine ⟨hm, fun j hj => ?_⟩
  have h1 : (numsL U m)[j]? = some (U j) := by simp [numsL, hj]
  have h2 : (numsL U' m')[j]? = some (U' j) := by simp [numsL, hm, hj]
  rw [e, h2] at h1
  exact Option.some.inj h1
end Go.VM

namespace Go.VM
open Go.Proofs Go
set_option maxRecDepth 100000
set_option linter.unusedVariables false
set_option linter.unusedSimpArgs false
/-- what comes out where levels are put in for the variables of a level, and the fault -/
def subO (m : Nat) (C : Nat → Int) (N : Nat → Nat) (W Q : Nat → Nat → Int) (c : Int) (n : Nat) (V P0 : Nat → Int) : Option (Int × List Pt) := canonL (sc m C c (lst V P0 n)) (putsL [] (big m (fun i => lst (W i) (Q i) (N i)) (lst V P0 n)))
def subG (m : Nat) (C : Nat → Int) (N : Nat → Nat) (W Q : Nat → Nat → Int) : LvF := fun c n V P0 => match subO m C N W Q c n V P0 with | some x => x | none => (0, [])
open Classical in
noncomputable def subE (m : Nat) (C : Nat → Int) (N : Nat → Nat) (W Q : Nat → Nat → Int) (c : Int) (n : Nat) (V P0 : Nat → Int) : Int := if SubP c n V P0 m C N W Q then (if subO m C N W Q c n V P0 = none then 2 else 0) else 4
theorem canonL_some {c : Int} {q : List Pt} {x : Int × List Pt} (h : canonL c q = some x) : x.2 = q ∧ q.length ≤ 8 ∧ x.1 = (if c ≤ mostL q then 0 else c) ∧ x.1 ≤ 1000 ∧ mostL q ≤ 1000 := by
  rw [canon_fits] at h
  by_cases h8 : (if c ≤ mostL q then 0 else c) > 1000 ∨ mostL q > 1000 ∨ q.length > 8
  · rw [if_pos h8] at h; cases h
  · rw [if_neg h8] at h
    obtain rfl := Option.some.inj h
    exact ⟨rfl, by omega, rfl, by dsimp only; omega, by omega⟩
/-- one result is the other one -/
theorem lv_inj {c c' : Int} {n n' : Nat} {V P V' P' : Nat → Int} {e e' : Int} (he : A.tup [lv c n V P, .d (.int .i64 e)] = .tup [lv c' n' V' P', .d (.int .i64 e')]) : c' = c ∧ n' = n ∧ e' = e ∧ lst V' P' n = lst V P n := by
  simp only [lv, A.tup.injEq, List.cons.injEq, A.agg.injEq, A.d.injEq, D.int.injEq, D.sl.injEq, true_and, and_true] at he
  obtain ⟨⟨rfl, rfl, hf⟩, rfl⟩ := he
  exact ⟨rfl, rfl, rfl, lst_congr fun k _ => ⟨by have := congrFun (congrFun hf k) 0; simpa [lvF] using this.symm, by have := congrFun (congrFun hf k) 1; simpa [lvF] using this.symm⟩⟩
theorem SubR.is {c : Int} {n : Nat} {V P0 : Nat → Int} {m : Nat} {C : Nat → Int} {N : Nat → Nat} {W Q : Nat → Nat → Int} {r : A} (h : SubR c n V P0 m C N W Q r) :
    ∃ c1 n1 V1 P1, r = .tup [lv c1 n1 V1 P1, .d (.int .i64 (subE m C N W Q c n V P0))] ∧ n1 < 2 ^ 61 ∧ (subE m C N W Q c n V P0 = 0 → c1 = (fit8 (subG m C N W Q c n V P0)).1 ∧ n1 = (fit8 (subG m C N W Q c n V P0)).2.length ∧
      ∀ j, j < n1 → V1 j = ((fit8 (subG m C N W Q c n V P0)).2.getD j (0, 0)).1 ∧ P1 j = ((fit8 (subG m C N W Q c n V P0)).2.getD j (0, 0)).2) := by
  unfold subE
  rcases h with ⟨h1, c1, n1, V1, P1, e, rfl, h2, h3, h4⟩ | ⟨h1, q, h2, h3, c1, n1, V1, P1, e, rfl, h4, h5, h6⟩
  · rw [if_neg h1]
    obtain ⟨rfl, _, _⟩ := h3 rfl
    exact ⟨c1, n1, V1, P1, rfl, h2, fun h => by cases h⟩
  · rw [if_pos h1]
    obtain rfl := putsL_eq h2 h3
    change canonL _ _ = none → _ at h5
    unfold subO
    cases hq : canonL (sc m C c (lst V P0 n)) (putsL [] (big m (fun i => lst (W i) (Q i) (N i)) (lst V P0 n))) with
    | none =>
      obtain ⟨rfl, _, _⟩ := h5 hq
      rw [if_pos rfl]
      exact ⟨c1, n1, V1, P1, rfl, h4, fun h => by cases h⟩
    | some x =>
      obtain ⟨rfl, rfl, h7⟩ := h6 x hq
      rw [if_neg (by simp)]
      obtain ⟨e1, e2, _⟩ := canonL_some hq
      have e3 : subG m C N W Q c n V P0 = x := by unfold subG subO; rw [hq]
      refine ⟨_, n1, V1, P1, rfl, h4, fun _ => ?_⟩
      rw [e3, fit8_eq (by rw [e1]; exact e2), ← h7]
      refine ⟨rfl, by rw [lst_length], fun j hj => ?_⟩
      rw [List.getD_eq_getElem?_getD, lst_get V1 P1 hj]
      exact ⟨rfl, rfl⟩
/-- the variables, put in for themselves -/
abbrev selfW : Nat → Nat → Int := fun i _ => i
theorem big_self {l : List Pt} (h : ∀ x, x ∈ l → 0 ≤ x.1 ∧ x.1 < 1200) : big 1200 (fun i => lst (selfW i) (fun _ => 0) 1) l = l := by
  induction l with
  | nil => rfl
  | cons x l ih =>
    obtain ⟨h1, h2⟩ := h x List.mem_cons_self
    rw [big, ih fun y hy => h y (List.mem_cons_of_mem _ hy)]
    unfold big1
    rw [if_pos (show x.1 < ((1200 : Nat) : Int) from h2)]
    obtain ⟨v, p⟩ := x
    have e : ((v.toNat : Nat) : Int) = v := Int.toNat_of_nonneg h1
    simp [lst, selfW, e]
theorem sc_self {b : Int} {c : Int} (hc : c ≤ b) : ∀ {l : List Pt}, (∀ x, x ∈ l → x.2 ≤ b) → sc 1200 (fun _ => 0) c l ≤ b
  | [], _ => hc
  | x :: l, h => by
    have := sc_self hc fun y hy => h y (List.mem_cons_of_mem x hy)
    have := h x List.mem_cons_self
    simp only [sc]
    split <;> omega
theorem sub_self {c : Int} {n : Nat} {V P0 : Nat → Int} (h : CanP c n V P0) : subE 1200 (fun _ => 0) (fun _ => 1) selfW (fun _ _ => 0) c n V P0 = 0 ∧ subG 1200 (fun _ => 0) (fun _ => 1) selfW (fun _ _ => 0) c n V P0 = (c, lst V P0 n) ∧ n ≤ 8 := by
  obtain ⟨c1, n1, V1, P1, h, rfl, hl⟩ := h
  rcases h with ⟨_, c2, n2, V2, P2, e, e0, _, h3, _⟩ | ⟨v, q, h2, h3, c2, n2, V2, P2, e, e0, h4, h5, h6⟩
  · obtain ⟨rfl, _⟩ := h3 rfl
    obtain ⟨_, _, h, _⟩ := lv_inj e0
    cases h
  · obtain ⟨rfl, rfl, rfl, hl2⟩ := lv_inj e0
    rw [← hl2] at hl
    cases hq : canonL c2 q with
    | none => obtain ⟨h, _⟩ := h5 hq; cases h
    | some x =>
      obtain ⟨_, hx, h7⟩ := h6 x hq
      obtain ⟨e1, e2, e3, e4, e5⟩ := canonL_some hq
      have hlq : lst V P0 n = q := by rw [← hl, h7, e1]
      have hr : ∀ y, y ∈ lst V P0 n → 0 ≤ y.1 ∧ y.1 < 1200 := fun y hy => by
        obtain ⟨i, hi, rfl⟩ := lst_mem.1 hy
        obtain ⟨p1, p2, _⟩ := v.2.2.2 i hi
        exact ⟨p1, p2⟩
      have hs : SubP c2 n V P0 1200 (fun _ => 0) (fun _ => 1) selfW (fun _ _ => 0) := ⟨v, fun i hi _ => by
        obtain ⟨p1, p2, _⟩ := v.2.2.2 i hi
        refine ⟨Int.le_refl 0, (by decide : (0 : Int) ≤ 1000), (by decide : 1 ≤ 8), fun k hk => ?_⟩
        have hk : k < 1 := hk
        obtain rfl : k = 0 := by omega
        have e : (((V i).toNat : Nat) : Int) = V i := Int.toNat_of_nonneg p1
        refine ⟨?_, ?_, Int.le_refl 0, (by decide : (0 : Int) ≤ 1000), fun k hk => absurd hk (Nat.not_lt_zero _)⟩
        · show 0 ≤ (((V i).toNat : Nat) : Int); omega
        · show (((V i).toNat : Nat) : Int) < 1200; omega⟩
      have hb : putsL [] (big 1200 (fun i => lst (selfW i) (fun _ => 0) 1) (lst V P0 n)) = q := by
        rw [big_self hr, hlq]
        exact putsL_eq h2 fun _ => rfl
      have ho : subO 1200 (fun _ => 0) (fun _ => 1) selfW (fun _ _ => 0) c2 n V P0 = some (c2, q) := by
        unfold subO
        rw [hb, canon_fits, hlq]
        have g1 := sc_ge 1200 (fun _ => 0) c2 q
        have hm : (if sc 1200 (fun _ => 0) c2 q ≤ mostL q then 0 else sc 1200 (fun _ => 0) c2 q) = c2 := by
          have hp : ∀ x, x ∈ q → x.2 ≤ mostL q := (mostL_le (mostL_ge q)).1 (Int.le_refl _)
          by_cases hc : c2 ≤ mostL q
          · have := sc_self hc hp
            rw [if_pos this]
            rw [if_pos hc] at e3
            omega
          · have := sc_self (b := c2) (c := c2) (Int.le_refl _) fun x hx => by have := hp x hx; omega
            rw [if_neg (by omega)]
            omega
        rw [hm, if_neg (by omega)]
      refine ⟨?_, ?_, ?_⟩
      · unfold subE
        rw [if_pos hs, ho, if_neg (by simp)]
      · unfold subG
        rw [ho, hlq]
      · have := congrArg List.length hlq
        rw [lst_length] at this
        omega
end Go.VM

namespace Go.VM
open Go.Proofs Go
set_option maxRecDepth 100000
set_option linter.unusedVariables false
set_option linter.unusedSimpArgs false
/-- a node's row of parts -/
theorem tm_rows {op n : Int} {s : ByteArray} {k : Nat} {C : Nat → Int} {N : Nat → Nat} {W Q : Nat → Nat → Int} {m : Nat} {ok : TmOk op n s k N m} (K : Nat → Tm) : ∃ G : Nat → Nat → D, (∀ i, i < m → tm (K i) = kid G i) ∧ ∀ n (ok : TmOk op n s k N m), tm (.nd op n s k C N W Q m ok K) = tml op n s k C N W Q m G := by
  refine ⟨fun i j => if i < m then tmD (K i) j else .nilp, fun i hi => ?_, fun n ok => ?_⟩
  · show tm (K i) = .agg [.d (if i < m then tmD (K i) 0 else .nilp), .d (if i < m then tmD (K i) 1 else .nilp), .d (if i < m then tmD (K i) 2 else .nilp), .d (if i < m then tmD (K i) 3 else .nilp), .d (if i < m then tmD (K i) 4 else .nilp)]
    simp only [if_pos hi]
    rfl
  · exact tm_nd (fun _ _ => .nilp)
theorem tm_leaf : ∃ g3 g4, tm Tm.leaf = .agg [.d (.int .i64 0), .d (.int .i64 0), .d (.str ByteArray.empty), .d (.sl 0 2 g3), .d (.sl 0 5 g4)] := by
  have h0 : tmD Tm.leaf 0 = .int .i64 0 := by unfold Tm.leaf; simp only [tmD]
  have h1 : tmD Tm.leaf 1 = .int .i64 0 := by unfold Tm.leaf; simp only [tmD]
  have h2 : tmD Tm.leaf 2 = .str ByteArray.empty := by unfold Tm.leaf; simp only [tmD]
  have h3 : ∃ g, tmD Tm.leaf 3 = .sl 0 2 g := by unfold Tm.leaf; simp only [tmD]; exact ⟨_, rfl⟩
  have h4 : ∃ g, tmD Tm.leaf 4 = .sl 0 5 g := by unfold Tm.leaf; simp only [tmD]; exact ⟨_, rfl⟩
  obtain ⟨g3, h3⟩ := h3
  obtain ⟨g4, h4⟩ := h4
  refine ⟨g3, g4, ?_⟩
  unfold tm
  rw [h0, h1, h2, h3, h4]
theorem Frz.z5 [Glb] {H : AHeap} (g3 g4 : Nat → Nat → D) (a b c : D) : Frz H (.agg [.d a, .d b, .d c, .nils, .nils]) (.agg [.d a, .d b, .d c, .d (.sl 0 2 g3), .d (.sl 0 5 g4)]) := .agg _ _ rfl (frzs_cons (.d _) (frzs_cons (.d _) (frzs_cons (.d _) (frzs_cons (.nils _ _) (frzs_cons (.nils _ _) (frzs_nil _))))))
end Go.VM

namespace Go.VM
open Go.Proofs Go
set_option maxRecDepth 100000
set_option linter.unusedVariables false
set_option linter.unusedSimpArgs false
/-- a level more at a row's end -/
theorem appF_ls {C' : Nat → Int} {N' : Nat → Nat} {W' Q' : Nat → Nat → Int} {V1 P1 : Nat → Int} {i : Nat} (h : ∀ y, y < N' i → V1 y = W' i y ∧ P1 y = Q' i y) (x j : Nat) (hx : x < i + 1) (hj : j < 2) :
    Deq (appF i (lsF C' N' W' Q') (rowF 2 [.int .i64 (C' i), .sl (N' i) 2 (lvF V1 P1)]) x j) (lsF C' N' W' Q' x j) := by
  unfold appF
  by_cases hxi : x < i
  · rw [if_pos hxi]; exact .refl _
  · obtain rfl : x = i := by omega
    rw [if_neg hxi, Nat.sub_self]
    match j, hj with
    | 0, _ => exact .refl _
    | 1, _ =>
      refine .sl _ _ _ _ fun y q hy hq => .of_eq ?_
      obtain ⟨e1, e2⟩ := h y hy
      match q, hq with
      | 0, _ => exact congrArg (D.int .i64) e1
      | 1, _ => exact congrArg (D.int .i64) e2
set_option maxHeartbeats 4000000 in
theorem SetL (mb : Nat) (CB : Nat → Int) (NB : Nat → Nat) (WB QB : Nat → Nat → Int) (hmb : mb < 2 ^ 63) (hNB : ∀ i, i < mb → NB i < 2 ^ 63) (t : Tm) : nodesT t ≤ 1000000 →
    VFun (P ()) 22 [tm t, .d (.sl mb 2 (lsF CB NB WB QB))] (fun r => ∃ e : Int, e = errT (subE mb CB NB WB QB) t ∧ r = .tup [if e = 0 then tm (setT (subG mb CB NB WB QB) t) else tm Tm.leaf, .d (.int .i64 e)]) := by
  refine Tm.walk (P := fun t => nodesT t ≤ 1000000 → VFun (P ()) 22 [tm t, .d (.sl mb 2 (lsF CB NB WB QB))] (fun r => ∃ e : Int, e = errT (subE mb CB NB WB QB) t ∧ r = .tup [if e = 0 then tm (setT (subG mb CB NB WB QB) t) else tm Tm.leaf, .d (.int .i64 e)])) ?_ t
  clear t
  intro op n s k C N W Q m ok K G hG e ih hs
  rw [nodesT_nd] at hs
  have b1 := sumF_ge (f := fun i => 1 + N i) (fun i => by omega) k
  have b2 := sumF_ge (f := fun i => nodesT (K i)) (fun i => nodesT_pos _) m
  have b3 : ∀ i, i < k → N i ≤ 1000000 := fun i hi => by have := sumF_one (f := fun i => 1 + N i) hi; omega
  have b4 : ∀ i, i < m → nodesT (K i) ≤ 1000000 := fun i hi => by have := sumF_one (f := fun i => nodesT (K i)) hi; omega
  have b5 : k ≤ 1000000 ∧ m ≤ 1000000 := ⟨by omega, by omega⟩
  obtain ⟨g3, g4, el⟩ := tm_leaf
  rw [e, setT_nd, errT_nd]
  obtain ⟨G', hG', e'⟩ := tm_rows (op := op) (n := n) (s := s) (k := k) (C := guC (subG mb CB NB WB QB) C N W Q) (N := guN (subG mb CB NB WB QB) C N W Q) (W := guW (subG mb CB NB WB QB) C N W Q) (Q := guQ (subG mb CB NB WB QB) C N W Q) (m := m) (ok := ok.setL _ C W Q) fun i => setT (subG mb CB NB WB QB) (K i)
  rw [e', el]
  have hS : ∀ i, i < k → VFun (P ()) 47 [lv (C i) (N i) (W i) (Q i), .d (.sl mb 2 (lsF CB NB WB QB))] (fun r => ∃ c1 n1 V1 P1, r = .tup [lv c1 n1 V1 P1, .d (.int .i64 (subE mb CB NB WB QB (C i) (N i) (W i) (Q i)))] ∧ n1 < 2 ^ 61 ∧ (subE mb CB NB WB QB (C i) (N i) (W i) (Q i) = 0 →
      c1 = guC (subG mb CB NB WB QB) C N W Q i ∧ n1 = guN (subG mb CB NB WB QB) C N W Q i ∧ ∀ j, j < n1 → V1 j = guW (subG mb CB NB WB QB) C N W Q i j ∧ P1 j = guQ (subG mb CB NB WB QB) C N W Q i j)) := fun i hi =>
    (Subst (C i) (N i) (W i) (Q i) mb CB NB WB QB (by have := b3 i hi; omega) hmb hNB).mono fun r h => SubR.is h
  have hK : ∀ i, i < m → VFun (P ()) 22 [kid G i, .d (.sl mb 2 (lsF CB NB WB QB))] (fun r => (errT (subE mb CB NB WB QB) (K i) = 0 ∧ r = .tup [kid G' i, .d (.int .i64 0)]) ∨ (errT (subE mb CB NB WB QB) (K i) ≠ 0 ∧ r = .tup [.agg [.d (.int .i64 0), .d (.int .i64 0), .d (.str ByteArray.empty), .d (.sl 0 2 g3), .d (.sl 0 5 g4)], .d (.int .i64 (errT (subE mb CB NB WB QB) (K i)))])) := fun i hi => by
    have := ih i hi (b4 i hi)
    rw [hG i hi, hG' i hi, el] at this
    refine this.mono fun r h => ?_
    obtain ⟨e0, he, rfl⟩ := h
    by_cases h0 : e0 = 0
    · exact .inl ⟨he.symm.trans h0, by rw [if_pos h0, h0]⟩
    · exact .inr ⟨fun h => h0 (he.trans h), by rw [if_neg h0, he]⟩
  obtain ⟨E, hE⟩ : ∃ E : Nat → Int, E = fun i => subE mb CB NB WB QB (C i) (N i) (W i) (Q i) := ⟨_, rfl⟩
  obtain ⟨F, hF⟩ : ∃ F : Nat → Int, F = fun i => errT (subE mb CB NB WB QB) (K i) := ⟨_, rfl⟩
  obtain ⟨C', hC'⟩ : ∃ F, F = guC (subG mb CB NB WB QB) C N W Q := ⟨_, rfl⟩
  obtain ⟨N', hN'⟩ : ∃ F, F = guN (subG mb CB NB WB QB) C N W Q := ⟨_, rfl⟩
  obtain ⟨W', hW'⟩ : ∃ F, F = guW (subG mb CB NB WB QB) C N W Q := ⟨_, rfl⟩
  obtain ⟨Q', hQ'⟩ : ∃ F, F = guQ (subG mb CB NB WB QB) C N W Q := ⟨_, rfl⟩
  have hS : ∀ i, i < k → VFun (P ()) 47 [lv (C i) (N i) (W i) (Q i), .d (.sl mb 2 (lsF CB NB WB QB))] (fun r => ∃ c1 n1 V1 P1, r = .tup [lv c1 n1 V1 P1, .d (.int .i64 (E i))] ∧ n1 < 2 ^ 61 ∧ (E i = 0 → c1 = C' i ∧ n1 = N' i ∧ ∀ j, j < n1 → V1 j = W' i j ∧ P1 j = Q' i j)) := by
    rw [hE, hC', hN', hW', hQ']; exact hS
  have hK : ∀ i, i < m → VFun (P ()) 22 [kid G i, .d (.sl mb 2 (lsF CB NB WB QB))] (fun r => (F i = 0 ∧ r = .tup [kid G' i, .d (.int .i64 0)]) ∨ (F i ≠ 0 ∧ r = .tup [.agg [.d (.int .i64 0), .d (.int .i64 0), .d (.str ByteArray.empty), .d (.sl 0 2 g3), .d (.sl 0 5 g4)], .d (.int .i64 (F i))])) := by
    rw [hF]; exact hK
  rw [← hE, ← hF, ← hC', ← hN', ← hW', ← hQ']
  clear ih e e' hG hG' hE hF hC' hN' hW' hQ' el b4 b2 b1 hs
  refine vfunL (Tf := fun {_} _ => fzT [] (T ())) (fun {_} => tabOk.frz []) [] 400 Tryz.func22 rfl (fun {_} => by kernel_rfl) rfl (Nat.le_of_ble_eq_true rfl) @fun ⟨_, _, _, _, _, _, _, _, _, _, _, _, _, _, _, _, _, _, _, _, _, _, _, _, _, _, _, _, _, _, _, _, _, _, _, _, _, _, wp, wf⟩ R hR => ?_
  cbv
  try simp only [wp, (show ∀ n : Nat, _ = n from fun n => wf.2.2.2.2.2.2.2.2.2.2.2.2.2.1 (Int.ofNat n)), getL, takeL, dropL, TK.isAgg, reduceIte]
  have hA : (∀ i, i < k → E i = 0) → (∀ i, i < m → F i = 0) → ∀ H r, Frz H r (tml op n s k C' N' W' Q' m G') → R (.tup [r, .d (.int .i64 0)]) H := fun h1 h2 H r hf => hR _ _ _ (.tup2 hf (.d _)) ⟨0, by rw [if_neg (by rw [Decidable.not_not]; exact firstF_zero.2 h1)]; exact (firstF_zero.2 h2).symm, rfl⟩
  have hB : ∀ i, i < k → (∀ j, j < i → E j = 0) → E i ≠ 0 → ∀ H, R (.tup [.agg [.d (.int .i64 0), .d (.int .i64 0), .d (.str ByteArray.empty), .nils, .nils], .d (.int .i64 (E i))]) H := fun i hi h1 h2 H => hR _ _ _ (.tup2 (.z5 g3 g4 _ _ _) (.d _)) ⟨E i, by rw [firstF_at h1 hi h2, if_pos h2], by rw [if_neg h2]⟩
  have hC : (∀ i, i < k → E i = 0) → ∀ i, i < m → (∀ j, j < i → F j = 0) → F i ≠ 0 → ∀ H, R (.tup [.agg [.d (.int .i64 0), .d (.int .i64 0), .d (.str ByteArray.empty), .nils, .nils], .d (.int .i64 (F i))]) H := fun h0 i hi h1 h2 H => hR _ _ _ (.tup2 (.z5 g3 g4 _ _ _) (.d _)) ⟨F i, by rw [if_neg (by rw [Decidable.not_not]; exact firstF_zero.2 h0), firstF_at h1 hi h2], by rw [if_neg h2]⟩
  clear hR
  repeat' first | (with_reducible refine And.intro ?_ ?_) | intro c9 | trivial | (refine Later.mk ?_; cbv; try simp only [wp, (show ∀ n : Nat, _ = n from fun n => wf.2.2.2.2.2.2.2.2.2.2.2.2.2.1 (Int.ofNat n)), (show _ = (0 : Nat) from wf.2.2.2.2.2.2.2.2.2.2.2.2.2.1 0), getL, takeL, dropL, TK.isAgg, reduceIte])
  refine loopGhost 6 2 rfl ?_
  refine loopL (Tf := fun {_} _ => fzT [] (T ())) (fun {_} => tabOk.frz []) [] 400 (fun i : Nat => ⟨[.undef, .d (.sl mb 2 (lsF CB NB WB QB)), .ptr 0 0, .undef, .ptr 1 0, .d (.int .i64 0), .ref 2 0 i 2, .undef, .undef, .undef, .undef, .undef, .undef, .undef, .undef, .undef, .undef, .d (.sl k 2 (lsF C N W Q)), .d (.int .i64 k), .d (.int .i64 i), .undef, .undef, .undef, .undef, .undef, .undef, .undef, .undef, .undef, .undef, .undef, .undef, .undef, .undef, .undef, .undef, .undef, .undef, .undef, .undef, .undef, .undef, .undef, .undef, .undef, .undef, .undef, .undef, .undef, .undef, .undef, .undef, .undef, .undef, .undef, .undef, .undef, .undef, .undef, .undef, .undef, .undef, .undef, .undef, .undef], [.box [.d (.int .i64 op), .d (.int .i64 n), .d (.str s), .d (.sl k 2 (lsF C N W Q)), .d (.sl m 5 G)], .box [.undef, .undef, .undef, .undef, .undef], .arr i 2 (lsF C' N' W' Q') 0]⟩) (fun i => k - i) (fun i => i ≤ k ∧ ∀ j, j < i → E j = 0) 0 ⟨Nat.zero_le _, fun j hj => absurd hj (Nat.not_lt_zero _)⟩ (fun {_} => by kernel_rfl) ?_ (fun i => by kernel_rfl) @fun ⟨_, _, _, _, _, _, _, _, _, _, _, _, _, _, _, _, _, _, _, _, _, _, _, _, _, _, _, _, _, _, _, _, _, _, _, _, _, _, wpa, wfa⟩ i Bk hi hBk => ?_
  · (cbv; try simp only [wf, exD, exL, exT, exB, exA, leLs, leL_d, leL_undef, leL_nils, leA_nils, deq_refl, deq_int, deq_bool, deq_str, and_true, true_and, AObj.iter.injEq, nc, nc']; try simp (disch := omega) only [w64, w32, wu8])
    exact ⟨rfl, Nat.le_refl _, Nat.le_refl _, fun i j hi => absurd hi (Nat.not_lt_zero _)⟩
  obtain ⟨i1, i2⟩ := hi
  (cbv; try simp only [wp, (show ∀ n : Nat, _ = n from fun n => wf.2.2.2.2.2.2.2.2.2.2.2.2.2.1 (Int.ofNat n)), (show _ = (0 : Nat) from wf.2.2.2.2.2.2.2.2.2.2.2.2.2.1 0), wpa, (show ∀ n : Nat, _ = n from fun n => wfa.2.2.2.2.2.2.2.2.2.2.2.2.2.1 (Int.ofNat n)), (show _ = (0 : Nat) from wfa.2.2.2.2.2.2.2.2.2.2.2.2.2.1 0), getL, takeL, dropL, TK.isAgg, reduceIte])
  refine ⟨fun e => ?_, fun e => ?_⟩
  · have e : i < k := (by (try simp only [wf, wfa, nc, nc', Int.toNat_natCast, bsz, ByteArray.size_append, List.length_cons, List.length_nil] at *); (try simp (disch := omega) only [w64, w32, wu8] at *); first | done | omega)
    have hv := hS i e
    (refine Later.mk ?_; cbv; try simp only [wp, (show ∀ n : Nat, _ = n from fun n => wf.2.2.2.2.2.2.2.2.2.2.2.2.2.1 (Int.ofNat n)), (show _ = (0 : Nat) from wf.2.2.2.2.2.2.2.2.2.2.2.2.2.1 0), wpa, (show ∀ n : Nat, _ = n from fun n => wfa.2.2.2.2.2.2.2.2.2.2.2.2.2.1 (Int.ofNat n)), (show _ = (0 : Nat) from wfa.2.2.2.2.2.2.2.2.2.2.2.2.2.1 0), getL, takeL, dropL, TK.isAgg, reduceIte])
    repeat' first | (with_reducible refine And.intro ?_ ?_) | intro c9 | trivial | (refine Later.mk ?_; cbv; try simp only [wp, (show ∀ n : Nat, _ = n from fun n => wf.2.2.2.2.2.2.2.2.2.2.2.2.2.1 (Int.ofNat n)), (show _ = (0 : Nat) from wf.2.2.2.2.2.2.2.2.2.2.2.2.2.1 0), wpa, (show ∀ n : Nat, _ = n from fun n => wfa.2.2.2.2.2.2.2.2.2.2.2.2.2.1 (Int.ofNat n)), (show _ = (0 : Nat) from wfa.2.2.2.2.2.2.2.2.2.2.2.2.2.1 0), getL, takeL, dropL, TK.isAgg, reduceIte])
    all_goals first | exact Nat.zero_le _ | exact (by (try simp only [wf, wfa, nc, nc', Int.toNat_natCast, bsz, ByteArray.size_append, List.length_cons, List.length_nil] at *); (try simp (disch := omega) only [w64, w32, wu8] at *); first | done | omega) | skip
    all_goals
      refine hv.call ?_
      rintro _ ⟨c1, n1, V1, P1, rfl, hn, h0⟩
      (cbv; try simp only [wp, (show ∀ n : Nat, _ = n from fun n => wf.2.2.2.2.2.2.2.2.2.2.2.2.2.1 (Int.ofNat n)), (show _ = (0 : Nat) from wf.2.2.2.2.2.2.2.2.2.2.2.2.2.1 0), wpa, (show ∀ n : Nat, _ = n from fun n => wfa.2.2.2.2.2.2.2.2.2.2.2.2.2.1 (Int.ofNat n)), (show _ = (0 : Nat) from wfa.2.2.2.2.2.2.2.2.2.2.2.2.2.1 0), getL, takeL, dropL, TK.isAgg, reduceIte])
      repeat' first | (with_reducible refine And.intro ?_ ?_) | intro c9 | trivial | (refine Later.mk ?_; cbv; try simp only [wp, (show ∀ n : Nat, _ = n from fun n => wf.2.2.2.2.2.2.2.2.2.2.2.2.2.1 (Int.ofNat n)), (show _ = (0 : Nat) from wf.2.2.2.2.2.2.2.2.2.2.2.2.2.1 0), wpa, (show ∀ n : Nat, _ = n from fun n => wfa.2.2.2.2.2.2.2.2.2.2.2.2.2.1 (Int.ofNat n)), (show _ = (0 : Nat) from wfa.2.2.2.2.2.2.2.2.2.2.2.2.2.1 0), getL, takeL, dropL, TK.isAgg, reduceIte])
    all_goals first
      | exact Nat.zero_le _
      | exact (by (try simp only [wf, wfa, nc, nc', Int.toNat_natCast, bsz, ByteArray.size_append, List.length_cons, List.length_nil] at *); (try simp (disch := omega) only [w64, w32, wu8] at *); first | done | omega)
      | (exact hB i e i2 (by clear hA hB hC; exact (by (try simp only [wf, wfa, nc, nc', Int.toNat_natCast, bsz, ByteArray.size_append, List.length_cons, List.length_nil] at *); (try simp (disch := omega) only [w64, w32, wu8] at *); first | done | omega)) _)
      | (have e0 : E i = 0 := (by clear hA hB hC; exact (by (try simp only [wf, wfa, nc, nc', Int.toNat_natCast, bsz, ByteArray.size_append, List.length_cons, List.length_nil] at *); (try simp (disch := omega) only [w64, w32, wu8] at *); first | done | omega))
         obtain ⟨rfl, rfl, h3⟩ := h0 e0
         refine hBk (i + 1) _ (by omega) ⟨by omega, fun j hj => ?_⟩ ?_
         · by_cases ej : j = i
           · subst ej; exact e0
           · exact i2 j (by omega)
         · (cbv; try simp only [wf, wfa, exD, exL, exT, exB, exA, leLs, leL_d, leL_undef, leL_nils, leA_nils, deq_refl, deq_int, deq_bool, deq_str, and_true, true_and, AObj.iter.injEq, nc, nc']; try simp (disch := omega) only [w64, w32, wu8])
           ((try simp only [wf, wfa, nc, nc', Int.toNat_natCast, bsz, ByteArray.size_append, List.length_cons, List.length_nil] at *); (try simp (disch := omega) only [w64, w32, wu8] at *))
           exact ⟨by omega, Nat.le_refl _, Nat.zero_le _, fun x j hx hj => appF_ls h3 x j hx hj⟩)
      | (trace_state; fail)
  · obtain rfl : i = k := (by (try simp only [wf, wfa, nc, nc', Int.toNat_natCast, bsz, ByteArray.size_append, List.length_cons, List.length_nil] at *); (try simp (disch := omega) only [w64, w32, wu8] at *); first | done | omega)
    (refine Later.mk ?_; cbv; try simp only [wp, (show ∀ n : Nat, _ = n from fun n => wf.2.2.2.2.2.2.2.2.2.2.2.2.2.1 (Int.ofNat n)), (show _ = (0 : Nat) from wf.2.2.2.2.2.2.2.2.2.2.2.2.2.1 0), wpa, (show ∀ n : Nat, _ = n from fun n => wfa.2.2.2.2.2.2.2.2.2.2.2.2.2.1 (Int.ofNat n)), (show _ = (0 : Nat) from wfa.2.2.2.2.2.2.2.2.2.2.2.2.2.1 0), getL, takeL, dropL, TK.isAgg, reduceIte])
    repeat' first | (with_reducible refine And.intro ?_ ?_) | intro c9 | trivial | (refine Later.mk ?_; cbv; try simp only [wp, (show ∀ n : Nat, _ = n from fun n => wf.2.2.2.2.2.2.2.2.2.2.2.2.2.1 (Int.ofNat n)), (show _ = (0 : Nat) from wf.2.2.2.2.2.2.2.2.2.2.2.2.2.1 0), wpa, (show ∀ n : Nat, _ = n from fun n => wfa.2.2.2.2.2.2.2.2.2.2.2.2.2.1 (Int.ofNat n)), (show _ = (0 : Nat) from wfa.2.2.2.2.2.2.2.2.2.2.2.2.2.1 0), getL, takeL, dropL, TK.isAgg, reduceIte])
    clear hBk hS
    refine loopGhost 11 5 rfl ?_
    refine loopL (Tf := fun {_} _ => fzT [] (T ())) (fun {_} => tabOk.frz []) [] 400 (fun j : Nat => ⟨[.undef, .d (.sl mb 2 (lsF CB NB WB QB)), .ptr 0 0, .undef, .ptr 1 0, .d (.int .i64 0), .ref 2 0 i 2, .undef, .undef, .undef, .undef, .ref 3 0 j 5, .undef, .undef, .undef, .undef, .undef, .undef, .undef, .undef, .undef, .undef, .undef, .undef, .undef, .undef, .undef, .undef, .undef, .undef, .undef, .undef, .undef, .undef, .undef, .undef, .undef, .undef, .undef, .d (.sl m 5 G), .d (.int .i64 m), .d (.int .i64 j), .undef, .undef, .undef, .undef, .undef, .undef, .undef, .undef, .undef, .undef, .undef, .undef, .undef, .undef, .undef, .undef, .undef, .undef, .undef, .undef, .undef, .undef, .undef], [.box [.d (.int .i64 op), .d (.int .i64 n), .d (.str s), .d (.sl i 2 (lsF C N W Q)), .d (.sl m 5 G)], .box [.undef, .undef, .undef, .undef, .undef], .arr i 2 (lsF C' N' W' Q') 0, .arr j 5 G' 0]⟩) (fun j => m - j) (fun j => j ≤ m ∧ ∀ q, q < j → F q = 0) 0 ⟨Nat.zero_le _, fun j hj => absurd hj (Nat.not_lt_zero _)⟩ (fun {_} => by kernel_rfl) ?_ (fun i => by kernel_rfl) @fun ⟨_, _, _, _, _, _, _, _, _, _, _, _, _, _, _, _, _, _, _, _, _, _, _, _, _, _, _, _, _, _, _, _, _, _, _, _, _, _, wpb, wfb⟩ j Bk2 hj hBk2 => ?_
    · (cbv; try simp only [wf, wfa, exD, exL, exT, exB, exA, leLs, leL_d, leL_undef, leL_nils, leA_nils, deq_refl, deq_int, deq_bool, deq_str, and_true, true_and, AObj.iter.injEq, nc, nc']; try simp (disch := omega) only [w64, w32, wu8])
      repeat' first | (with_reducible refine And.intro ?_ ?_) | trivial | exact rfl | exact Nat.zero_le _ | exact fun _ _ _ _ => trivial | exact fun i j hi => absurd hi (Nat.not_lt_zero _)
    obtain ⟨j1, j2⟩ := hj
    (cbv; try simp only [wp, (show ∀ n : Nat, _ = n from fun n => wf.2.2.2.2.2.2.2.2.2.2.2.2.2.1 (Int.ofNat n)), (show _ = (0 : Nat) from wf.2.2.2.2.2.2.2.2.2.2.2.2.2.1 0), wpa, (show ∀ n : Nat, _ = n from fun n => wfa.2.2.2.2.2.2.2.2.2.2.2.2.2.1 (Int.ofNat n)), (show _ = (0 : Nat) from wfa.2.2.2.2.2.2.2.2.2.2.2.2.2.1 0), wpb, (show ∀ n : Nat, _ = n from fun n => wfb.2.2.2.2.2.2.2.2.2.2.2.2.2.1 (Int.ofNat n)), (show _ = (0 : Nat) from wfb.2.2.2.2.2.2.2.2.2.2.2.2.2.1 0), getL, takeL, dropL, TK.isAgg, reduceIte])
    refine ⟨fun e2 => ?_, fun e2 => ?_⟩
    · have e2 : j < m := (by (try simp only [wf, wfa, wfb, nc, nc', Int.toNat_natCast, bsz, ByteArray.size_append, List.length_cons, List.length_nil] at *); (try simp (disch := omega) only [w64, w32, wu8] at *); first | done | omega)
      have hv := hK j e2
      (refine Later.mk ?_; cbv; try simp only [wp, (show ∀ n : Nat, _ = n from fun n => wf.2.2.2.2.2.2.2.2.2.2.2.2.2.1 (Int.ofNat n)), (show _ = (0 : Nat) from wf.2.2.2.2.2.2.2.2.2.2.2.2.2.1 0), wpa, (show ∀ n : Nat, _ = n from fun n => wfa.2.2.2.2.2.2.2.2.2.2.2.2.2.1 (Int.ofNat n)), (show _ = (0 : Nat) from wfa.2.2.2.2.2.2.2.2.2.2.2.2.2.1 0), wpb, (show ∀ n : Nat, _ = n from fun n => wfb.2.2.2.2.2.2.2.2.2.2.2.2.2.1 (Int.ofNat n)), (show _ = (0 : Nat) from wfb.2.2.2.2.2.2.2.2.2.2.2.2.2.1 0), getL, takeL, dropL, TK.isAgg, reduceIte])
      repeat' first | (with_reducible refine And.intro ?_ ?_) | intro c9 | trivial | (refine Later.mk ?_; cbv; try simp only [wp, (show ∀ n : Nat, _ = n from fun n => wf.2.2.2.2.2.2.2.2.2.2.2.2.2.1 (Int.ofNat n)), (show _ = (0 : Nat) from wf.2.2.2.2.2.2.2.2.2.2.2.2.2.1 0), wpa, (show ∀ n : Nat, _ = n from fun n => wfa.2.2.2.2.2.2.2.2.2.2.2.2.2.1 (Int.ofNat n)), (show _ = (0 : Nat) from wfa.2.2.2.2.2.2.2.2.2.2.2.2.2.1 0), wpb, (show ∀ n : Nat, _ = n from fun n => wfb.2.2.2.2.2.2.2.2.2.2.2.2.2.1 (Int.ofNat n)), (show _ = (0 : Nat) from wfb.2.2.2.2.2.2.2.2.2.2.2.2.2.1 0), getL, takeL, dropL, TK.isAgg, reduceIte])
      all_goals first | exact Nat.zero_le _ | exact (by (try simp only [wf, wfa, wfb, nc, nc', Int.toNat_natCast, bsz, ByteArray.size_append, List.length_cons, List.length_nil] at *); (try simp (disch := omega) only [w64, w32, wu8] at *); first | done | omega) | skip
      all_goals
        refine hv.call ?_
        rintro _ (⟨hf, rfl⟩ | ⟨hf, rfl⟩)
      all_goals
        (cbv; try simp only [wp, (show ∀ n : Nat, _ = n from fun n => wf.2.2.2.2.2.2.2.2.2.2.2.2.2.1 (Int.ofNat n)), (show _ = (0 : Nat) from wf.2.2.2.2.2.2.2.2.2.2.2.2.2.1 0), wpa, (show ∀ n : Nat, _ = n from fun n => wfa.2.2.2.2.2.2.2.2.2.2.2.2.2.1 (Int.ofNat n)), (show _ = (0 : Nat) from wfa.2.2.2.2.2.2.2.2.2.2.2.2.2.1 0), wpb, (show ∀ n : Nat, _ = n from fun n => wfb.2.2.2.2.2.2.2.2.2.2.2.2.2.1 (Int.ofNat n)), (show _ = (0 : Nat) from wfb.2.2.2.2.2.2.2.2.2.2.2.2.2.1 0), getL, takeL, dropL, TK.isAgg, reduceIte])
        repeat' first | (with_reducible refine And.intro ?_ ?_) | intro c9 | trivial | (refine Later.mk ?_; cbv; try simp only [wp, (show ∀ n : Nat, _ = n from fun n => wf.2.2.2.2.2.2.2.2.2.2.2.2.2.1 (Int.ofNat n)), (show _ = (0 : Nat) from wf.2.2.2.2.2.2.2.2.2.2.2.2.2.1 0), wpa, (show ∀ n : Nat, _ = n from fun n => wfa.2.2.2.2.2.2.2.2.2.2.2.2.2.1 (Int.ofNat n)), (show _ = (0 : Nat) from wfa.2.2.2.2.2.2.2.2.2.2.2.2.2.1 0), wpb, (show ∀ n : Nat, _ = n from fun n => wfb.2.2.2.2.2.2.2.2.2.2.2.2.2.1 (Int.ofNat n)), (show _ = (0 : Nat) from wfb.2.2.2.2.2.2.2.2.2.2.2.2.2.1 0), getL, takeL, dropL, TK.isAgg, reduceIte])
      all_goals first
        | exact Nat.zero_le _
        | (clear hA hB hC; exact (by (try simp only [wf, wfa, wfb, nc, nc', Int.toNat_natCast, bsz, ByteArray.size_append, List.length_cons, List.length_nil] at *); (try simp (disch := omega) only [w64, w32, wu8] at *); first | done | omega))
        | (exact absurd hf (by clear hA hB hC; exact (by (try simp only [wf, wfa, wfb, nc, nc', Int.toNat_natCast, bsz, ByteArray.size_append, List.length_cons, List.length_nil] at *); (try simp (disch := omega) only [w64, w32, wu8] at *); first | done | omega)))
        | (exact hC i2 j e2 j2 hf _)
        | (refine hBk2 (j + 1) _ (by omega) ⟨by omega, fun q hq => ?_⟩ ?_
           · by_cases eq : q = j
             · subst eq; exact hf
             · exact j2 q (by omega)
           · (cbv; try simp only [wf, wfa, wfb, exD, exL, exT, exB, exA, leLs, leL_d, leL_undef, leL_nils, leA_nils, deq_refl, deq_int, deq_bool, deq_str, and_true, true_and, AObj.iter.injEq, nc, nc']; try simp (disch := omega) only [w64, w32, wu8])
             ((try simp only [wf, wfa, wfb, nc, nc', Int.toNat_natCast, bsz, ByteArray.size_append, List.length_cons, List.length_nil] at *); (try simp (disch := omega) only [w64, w32, wu8] at *))
             repeat' first | (with_reducible refine And.intro ?_ ?_) | trivial | omega | exact Nat.zero_le _ | exact fun _ _ _ _ => trivial
             exact fun x j hx hj => .of_eq (app_row2 (g' := G') (fun _ _ _ _ => rfl) (fun j hj => by
               match j, hj with
               | 0, _ | 1, _ | 2, _ | 3, _ | 4, _ => rfl) x j hx hj))
        | (trace_state; fail)
    · obtain rfl : j = m := (by (try simp only [wf, wfa, wfb, nc, nc', Int.toNat_natCast, bsz, ByteArray.size_append, List.length_cons, List.length_nil] at *); (try simp (disch := omega) only [w64, w32, wu8] at *); first | done | omega)
      (refine Later.mk ?_; cbv; try simp only [wp, (show ∀ n : Nat, _ = n from fun n => wf.2.2.2.2.2.2.2.2.2.2.2.2.2.1 (Int.ofNat n)), (show _ = (0 : Nat) from wf.2.2.2.2.2.2.2.2.2.2.2.2.2.1 0), wpa, (show ∀ n : Nat, _ = n from fun n => wfa.2.2.2.2.2.2.2.2.2.2.2.2.2.1 (Int.ofNat n)), (show _ = (0 : Nat) from wfa.2.2.2.2.2.2.2.2.2.2.2.2.2.1 0), wpb, (show ∀ n : Nat, _ = n from fun n => wfb.2.2.2.2.2.2.2.2.2.2.2.2.2.1 (Int.ofNat n)), (show _ = (0 : Nat) from wfb.2.2.2.2.2.2.2.2.2.2.2.2.2.1 0), getL, takeL, dropL, TK.isAgg, reduceIte])
      repeat' first | (with_reducible refine And.intro ?_ ?_) | intro c9 | trivial | (refine Later.mk ?_; cbv; try simp only [wp, (show ∀ n : Nat, _ = n from fun n => wf.2.2.2.2.2.2.2.2.2.2.2.2.2.1 (Int.ofNat n)), (show _ = (0 : Nat) from wf.2.2.2.2.2.2.2.2.2.2.2.2.2.1 0), wpa, (show ∀ n : Nat, _ = n from fun n => wfa.2.2.2.2.2.2.2.2.2.2.2.2.2.1 (Int.ofNat n)), (show _ = (0 : Nat) from wfa.2.2.2.2.2.2.2.2.2.2.2.2.2.1 0), wpb, (show ∀ n : Nat, _ = n from fun n => wfb.2.2.2.2.2.2.2.2.2.2.2.2.2.1 (Int.ofNat n)), (show _ = (0 : Nat) from wfb.2.2.2.2.2.2.2.2.2.2.2.2.2.1 0), getL, takeL, dropL, TK.isAgg, reduceIte])
      all_goals exact hA i2 j2 _ _ (.agg _ _ rfl (frzs_cons (.d _) (frzs_cons (.d _) (frzs_cons (.d _) (frzs_cons (.ref0 2 i 2 i 0 _ rfl rfl) (frzs_cons (.ref0 3 j 5 j 0 _ rfl rfl) (frzs_nil _)))))))
end Go.VM

/- A nil slice in a box, or as an argument, seen as an own slice of no elements. -/
set_option linter.unusedSimpArgs false
set_option linter.unusedVariables false
set_option linter.unusedSectionVars false
namespace Go.VM
section
variable [Glb] [Lim]
theorem Keep.same0 {B : Gd} {w : World} {I : Nat → Nat → Prop} {ι : Nat → Option Nat} {H : AHeap} : Keep B w I ι H w I ι H := ⟨.refl _ _, fun _ _ _ => rfl, fun _ _ h => h, Nat.le_refl _, fun _ _ h => h⟩
/-- the heap in which a field of a box, a nil slice, is an own slice of no elements -/
def ghB (H : AHeap) (o f : Nat) (cs : List A) (sz : Nat) (g : Nat → Nat → D) : AHeap := (H ++ [AObj.arr 0 sz g 0]).set o (AObj.box (cs.set f (A.ref H.length 0 0 sz)))
theorem Rel.ghostBox [Ops] {B : Gd} {ι : Nat → Option Nat} {I : Nat → Nat → Prop} {w : World} {H : AHeap} (hrel : Rel B ι I w H) (o f sz : Nat) (g : Nat → Nat → D) {cs : List A} (ho : H[o]? = some (.box cs)) (hf : cs.getD f .undef = .nils) :
    ∃ ι', Rel B ι' I w (ghB H o f cs sz g) ∧ (∀ v x, RepA w I ι H v x → RepA w I ι' (ghB H o f cs sz g) v x) ∧ ∀ {w0 : World} {I0 : Nat → Nat → Prop} {ι0 : Nat → Option Nat} {H0 : AHeap}, Keep B w0 I0 ι0 H0 w I ι H → Keep B w0 I0 ι0 H0 w I ι' (ghB H o f cs sz g) := by
  unfold ghB
  have gg := Goes.new (w := w) (w' := w) (fun _ _ => rfl) hrel.imm ι H (.arr 0 sz g 0) none
  have r1 : Rel B (updι ι H.length none) I w (H ++ [.arr 0 sz g 0]) := hrel.new (Nat.le_refl _) (fun _ _ => rfl) _ _ (fun b' e => by cases e) ⟨Nat.zero_le _, .inr ⟨by simp [updι], rfl⟩⟩
  have hl : o < H.length := (List.getElem?_eq_some_iff.1 ho).1
  have hfl : f < cs.length := by
    rcases Nat.lt_or_ge f cs.length with h | h
    · exact h
    · simp [List.getD_eq_getElem?_getD, List.getElem?_eq_none h] at hf
  obtain ⟨H1, hH1⟩ : ∃ H1, H1 = H ++ [AObj.arr 0 sz g 0] := ⟨_, rfl⟩
  have ho1 : H1[o]? = some (.box cs) := by rw [hH1, List.getElem?_append_left hl]; exact ho
  have hn1 : H1[H.length]? = some (.arr 0 sz g 0) := by rw [hH1, List.getElem?_append_right (Nat.le_refl _)]; simp
  have hl1 : H1.length = H.length + 1 := by rw [hH1]; simp
  rw [← hH1] at gg r1 ⊢
  obtain ⟨ι', hι⟩ : ∃ ι', ι' = updι ι H.length none := ⟨_, rfl⟩
  have hι0 : ι' H.length = none := by rw [hι]; simp [updι]
  rw [← hι] at gg r1
  obtain ⟨X, hX⟩ : ∃ X, X = AObj.box (cs.set f (.ref H.length 0 0 sz)) := ⟨_, rfl⟩
  rw [← hX]
  have same : ∀ o1, o1 ≠ o → (H1.set o X)[o1]? = H1[o1]? := fun o1 h => List.getElem?_set_ne (fun e => h e.symm)
  have here : (H1.set o X)[o]? = some X := by
    rw [List.getElem?_set_self]; omega
  have g2 : Goes w w I I ι' ι' H1 (H1.set o X) := by
    refine ⟨fun _ _ _ => rfl, fun _ _ h => h, by simp, fun o1 off len sz' v h1 hx n sz'' get fz h2 h3 => ?_, fun o1 x h1 h2 h3 => ?_, fun o1 n sz' get fz h1 h2 => ?_, fun o1 s p h1 h2 => ?_⟩
    · by_cases e : o1 = o
      · subst e; rw [here, hX] at h2; cases h2
      · rw [same o1 e] at h2; exact hx n sz'' get fz h2 h3
    · by_cases e : o1 = o
      · subst e; exact ⟨⟨_, ho1, trivial⟩, rfl⟩
      · rw [same o1 e] at h2; exact ⟨⟨x, h2, h3⟩, rfl⟩
    · by_cases e : o1 = o
      · subst e; rw [here, hX] at h2; cases h2
      · rw [same o1 e] at h2; exact ⟨n, get, fz, h2, Nat.le_refl _, fun _ => rfl⟩
    · by_cases e : o1 = o
      · subst e; rw [here, hX] at h2; cases h2
      · rw [same o1 e] at h2; exact ⟨⟨s, p, h2⟩, rfl⟩
  have own : ∀ o1 x, (H1.set o X)[o1]? = some x → x.live → ∃ y, H1[o1]? = some y ∧ y.live ∧ ∀ b, Own w ι' o1 x b → Own w ι' o1 y b := fun o1 x h1 h2 => by
    by_cases e : o1 = o
    · subst e
      rw [here, hX] at h1
      cases h1
      exact ⟨_, ho1, trivial, fun b h => h⟩
    · rw [same o1 e] at h1; exact ⟨x, h1, h2, fun b h => h⟩
  refine ⟨ι', ⟨r1.base, r1.imm, r1.low, r1.glob, fun o1 x hx => ?_, fun o1 o2 x1 x2 b h1 h2 l1 l2 e1 e2 => ?_⟩, fun v x h => (h.goes gg).goes g2, fun h => (h.goes gg (.refl _ _)).goes g2 (.refl _ _)⟩
  · by_cases e : o1 = o
    · subst e
      rw [here, hX] at hx
      cases hx
      obtain ⟨b, vs1, el, fr, e1, e2, e3, e4, e5, e6⟩ := r1.obj o1 _ ho1
      refine ⟨b, vs1, el, fr, e1, e2, e3, by simpa using e4, fun k hk => ?_, e6⟩
      have hk : k < cs.length := by simpa using hk
      have hv := e5 k hk
      by_cases ek : f = k
      · subst ek
        rw [hf] at hv
        have : (cs.set f (.ref H.length 0 0 sz)).getD f .undef = .ref H.length 0 0 sz := by simp [List.getD_eq_getElem?_getD, List.getElem?_set, hk]
        rw [this]
        generalize vs1.getD f undef = v at hv
        cases hv with | nils =>
        refine .ref _ _ _ _ _ (by simp; omega) (fun n' sz'' get'' fz' h _ => ?_) ⟨_, _, rfl⟩
        rw [same _ (by omega), hn1] at h
        cases h
        exact ⟨by omega, fun _ => .inr (.inl ⟨hι0, rfl, rfl⟩)⟩
      · have : (cs.set f (.ref H.length 0 0 sz)).getD k .undef = cs.getD k .undef := by simp [List.getD_eq_getElem?_getD, List.getElem?_set_ne ek]
        rw [this]
        exact hv.goes g2
    · rw [same o1 e] at hx
      exact (r1.obj o1 x hx).keep g2 rfl (fun _ _ => rfl) (fun _ _ _ h => h)
  · obtain ⟨y1, a1, b1, c1⟩ := own o1 x1 h1 l1
    obtain ⟨y2, a2, b2, c2⟩ := own o2 x2 h2 l2
    exact r1.inj o1 o2 y1 y2 b a1 a2 b1 b2 (c1 _ e1) (c2 _ e2)
end
/-- what a call made is forgotten but for the objects that it was given, of which less may be said -/
theorem VCalls.ice2 [Glb] {P : Program} {K : FuncId} {args : List A} {H1 : AHeap} {R1 : A → AHeap → Prop} (h : VCalls P K args H1 R1) {R : A → AHeap → Prop}
    (hb : belH H1.length H1 = true) (ha : belA.belAs H1.length args = true) (hren : ren.renL (fun i => i) args = args) (hre2 : renH (fun i => i) H1 = H1)
    (hr : ∀ r H', R1 r H' → ∃ y H2, (∀ [Ops] [Lim], leH H2 H') ∧ H2.length = H1.length ∧ FrzM H1.length (fun i => i) H' r y ∧ belH H2.length H2 = true ∧ renH (fun i => i) H2 = H2 ∧ R y H2) : VCalls P K args H1 R := by
  have idO : ∀ {L : AHeap}, renH (fun i => i) L = L → ∀ (i : Nat) x, L[i]? = some x → L[i]? = some (renO (fun i => i) x) := fun {L} e i x hx => by
    have : (renH (fun i => i) L)[i]? = some (renO (fun i => i) x) := by rw [renH_eq, List.getElem?_map, hx]; rfl
    rwa [e] at this
  have h1 : VCalls P K (ren.renL (fun i => i) args) H1 R := by
    refine h.frame H1 (fun i => i) (fun i j _ _ e => e) (idO hre2) (fun i x hx => belH_ok hb i x hx) (fun k hk => belAs_ok ha k hk) fun r1 H1' hR => ?_
    obtain ⟨y, H2, h4, h2, h3, h5, h6, h7⟩ := hr r1 H1' hR
    refine Ops.exists_one.elim fun inst => ?_
    let lim : Lim := ⟨fun _ _ => True⟩
    exact ⟨y, H2, H2, by rw [h2]; exact h3, by omega, fun i h8 h9 => by omega, h4, fun i x hx => belH_ok h5 i x hx, by omega, idO h6, fun o ho hno => absurd rfl (hno o ho), h7⟩
  rwa [hren] at h1
/-- a nil slice among the arguments -/
theorem CallW.ghostArg [Glb] {P : Unit → Program} {K : FuncId} {args args' : List A} {H H' : AHeap} {R : A → AHeap → Prop} (k sz : Nat) (g : Nat → Nat → D) (hk : args.getD k .undef = .nils)
    (ha : args.set k (.ref H.length 0 0 sz) = args') (hH : H ++ [.arr 0 sz g 0] = H') (hc : CallW P K args' H' R) : CallW P K args H R := by
  subst ha hH
  refine Ops.exists_one.elim fun inst => ⟨fun lim B ι I w vs hrel hargs => ?_⟩
  rw [CallW_eq] at hc
  have gg := Goes.new (w := w) (w' := w) (fun _ _ => rfl) hrel.imm ι H (.arr 0 sz g 0) none
  have r1 : Rel B (updι ι H.length none) I w (H ++ [.arr 0 sz g 0]) := hrel.new (Nat.le_refl _) (fun _ _ => rfl) _ _ (fun b' e => by cases e) ⟨Nat.zero_le _, .inr ⟨by simp [updι], rfl⟩⟩
  refine (hc lim B _ I w vs r1 ⟨by rw [hargs.1]; simp, fun j hj => ?_⟩).mono ?_
  · have hj : j < args.length := by simpa using hj
    by_cases e : k = j
    · subst e
      have hv := hargs.2 k hj
      rw [hk] at hv
      generalize vs.getD k undef = v at hv
      cases hv with | nils =>
      have : (args.set k (.ref H.length 0 0 sz)).getD k .undef = .ref H.length 0 0 sz := by simp [List.getD_eq_getElem?_getD, List.getElem?_set, hj]
      rw [this]
      refine .ref _ _ _ _ _ (by simp) (fun n' sz'' get'' fz' h _ => ?_) ⟨_, _, rfl⟩
      rw [List.getElem?_append_right (Nat.le_refl _)] at h
      simp at h
      obtain ⟨rfl, rfl, rfl, rfl⟩ := h
      exact ⟨by omega, fun _ => .inr (.inl ⟨by simp [updι], rfl, rfl⟩)⟩
    · have : (args.set k (.ref H.length 0 0 sz)).getD j .undef = args.getD j .undef := by simp [List.getD_eq_getElem?_getD, List.getElem?_set_ne e]
      rw [this]
      exact (hargs.2 j hj).goes gg
  · rintro e w' ⟨v, r, H2, ι2, I2, rfl, h2, h3, h4, h5⟩
    exact ⟨v, r, H2, ι2, I2, rfl, h2, h3, h4, (Keep.same0.goes gg (.refl _ _)).trans h5⟩
/-- a nil slice in a box, at a call -/
theorem CallW.ghostBox [Glb] {P : Unit → Program} {K : FuncId} {args : List A} {H H' : AHeap} {R : A → AHeap → Prop} (o f sz : Nat) (g : Nat → Nat → D) {cs : List A} (ho : H[o]? = some (.box cs)) (hf : cs.getD f .undef = .nils)
    (hH : ghB H o f cs sz g = H') (hc : CallW P K args H' R) : CallW P K args H R := by
  subst hH
  refine Ops.exists_one.elim fun inst => ⟨fun lim B ι I w vs hrel hargs => ?_⟩
  rw [CallW_eq] at hc
  obtain ⟨ι', r2, h1, h2⟩ := hrel.ghostBox o f sz g ho hf
  refine (hc lim B ι' I w vs r2 ⟨hargs.1, fun j hj => h1 _ _ (hargs.2 j hj)⟩).mono ?_
  rintro e w' ⟨v, r, H2, ι2, I2, rfl, h3, h4, h5, h6⟩
  exact ⟨v, r, H2, ι2, I2, rfl, h3, h4, h5, (h2 Keep.same0).trans h6⟩
/-- a nil slice in a box, at a loop -/
theorem loopGhostBox [Glb] {Pf : Unit → Program} {n : Nat} {c : Code} {Q : Ex → St → Prop} {tm : List A} {H H' : AHeap} (o f sz : Nat) (g : Nat → Nat → D) {cs : List A} (ho : H[o]? = some (.box cs)) (hf : cs.getD f .undef = .nils)
    (hH : ghB H o f cs sz g = H') (h : LoopVW Pf n c Q ⟨tm, H'⟩) : LoopVW Pf n c Q ⟨tm, H⟩ := by
  subst hH
  obtain ⟨h⟩ := h
  refine ⟨fun lim => ?_⟩
  refine Ops.exists_one.elim fun inst => ?_
  intro E ι I a w hn hi
  obtain ⟨ι', r2, h1, h2⟩ := hi.rel.ghostBox o f sz g ho hf
  exact h lim E ι' I a w hn ⟨hi.defers, ⟨hi.tm.1, fun t ht => h1 _ _ (hi.tm.2 t ht)⟩, r2, h2 hi.keep⟩
end Go.VM

namespace Go.VM
open Go.Proofs Go
set_option maxRecDepth 100000
set_option linter.unusedVariables false
set_option linter.unusedSimpArgs false
set_option maxHeartbeats 4000000 in
theorem RSetL (mb : Nat) (CB : Nat → Int) (NB : Nat → Nat) (WB QB : Nat → Nat → Int) (hmb : mb < 2 ^ 63) (hNB : ∀ i, i < mb → NB i < 2 ^ 63) (t : Tm) : nodesT t ≤ 1000000 →
    VFun (P ()) 25 [tm t, .d (.sl mb 2 (lsF CB NB WB QB))] (fun r => ∃ e : Int, e = errT (subE mb CB NB WB QB) t ∧ r = .tup [if e = 0 then tm (setT (subG mb CB NB WB QB) t) else tm Tm.leaf, .d (.int .i64 e)]) := by
  refine Tm.walk (P := fun t => nodesT t ≤ 1000000 → VFun (P ()) 25 [tm t, .d (.sl mb 2 (lsF CB NB WB QB))] (fun r => ∃ e : Int, e = errT (subE mb CB NB WB QB) t ∧ r = .tup [if e = 0 then tm (setT (subG mb CB NB WB QB) t) else tm Tm.leaf, .d (.int .i64 e)])) ?_ t
  clear t
  intro op n s k C N W Q m ok K G hG e ih hs
  rw [nodesT_nd] at hs
  have b1 := sumF_ge (f := fun i => 1 + N i) (fun i => by omega) k
  have b2 := sumF_ge (f := fun i => nodesT (K i)) (fun i => nodesT_pos _) m
  have b3 : ∀ i, i < k → N i ≤ 1000000 := fun i hi => by have := sumF_one (f := fun i => 1 + N i) hi; omega
  have b4 : ∀ i, i < m → nodesT (K i) ≤ 1000000 := fun i hi => by have := sumF_one (f := fun i => nodesT (K i)) hi; omega
  have b5 : k ≤ 1000000 ∧ m ≤ 1000000 := ⟨by omega, by omega⟩
  obtain ⟨g3, g4, el⟩ := tm_leaf
  rw [e, setT_nd, errT_nd]
  obtain ⟨G', hG', e'⟩ := tm_rows (op := op) (n := n) (s := s) (k := k) (C := guC (subG mb CB NB WB QB) C N W Q) (N := guN (subG mb CB NB WB QB) C N W Q) (W := guW (subG mb CB NB WB QB) C N W Q) (Q := guQ (subG mb CB NB WB QB) C N W Q) (m := m) (ok := ok.setL _ C W Q) fun i => setT (subG mb CB NB WB QB) (K i)
  rw [e', el]
  have hS : ∀ i, i < k → VFun (P ()) 51 [lv (C i) (N i) (W i) (Q i), .d (.sl mb 2 (lsF CB NB WB QB))] (fun r => ∃ c1 n1 V1 P1, r = .tup [lv c1 n1 V1 P1, .d (.int .i64 (subE mb CB NB WB QB (C i) (N i) (W i) (Q i)))] ∧ n1 < 2 ^ 61 ∧ (subE mb CB NB WB QB (C i) (N i) (W i) (Q i) = 0 →
      c1 = guC (subG mb CB NB WB QB) C N W Q i ∧ n1 = guN (subG mb CB NB WB QB) C N W Q i ∧ ∀ j, j < n1 → V1 j = guW (subG mb CB NB WB QB) C N W Q i j ∧ P1 j = guQ (subG mb CB NB WB QB) C N W Q i j)) := fun i hi =>
    (RSubst (C i) (N i) (W i) (Q i) mb CB NB WB QB (by have := b3 i hi; omega) hmb hNB).mono fun r h => SubR.is h
  have hK : ∀ i, i < m → VFun (P ()) 25 [kid G i, .d (.sl mb 2 (lsF CB NB WB QB))] (fun r => (errT (subE mb CB NB WB QB) (K i) = 0 ∧ r = .tup [kid G' i, .d (.int .i64 0)]) ∨ (errT (subE mb CB NB WB QB) (K i) ≠ 0 ∧ r = .tup [.agg [.d (.int .i64 0), .d (.int .i64 0), .d (.str ByteArray.empty), .d (.sl 0 2 g3), .d (.sl 0 5 g4)], .d (.int .i64 (errT (subE mb CB NB WB QB) (K i)))])) := fun i hi => by
    have := ih i hi (b4 i hi)
    rw [hG i hi, hG' i hi, el] at this
    refine this.mono fun r h => ?_
    obtain ⟨e0, he, rfl⟩ := h
    by_cases h0 : e0 = 0
    · exact .inl ⟨he.symm.trans h0, by rw [if_pos h0, h0]⟩
    · exact .inr ⟨fun h => h0 (he.trans h), by rw [if_neg h0, he]⟩
  obtain ⟨E, hE⟩ : ∃ E : Nat → Int, E = fun i => subE mb CB NB WB QB (C i) (N i) (W i) (Q i) := ⟨_, rfl⟩
  obtain ⟨F, hF⟩ : ∃ F : Nat → Int, F = fun i => errT (subE mb CB NB WB QB) (K i) := ⟨_, rfl⟩
  obtain ⟨C', hC'⟩ : ∃ F, F = guC (subG mb CB NB WB QB) C N W Q := ⟨_, rfl⟩
  obtain ⟨N', hN'⟩ : ∃ F, F = guN (subG mb CB NB WB QB) C N W Q := ⟨_, rfl⟩
  obtain ⟨W', hW'⟩ : ∃ F, F = guW (subG mb CB NB WB QB) C N W Q := ⟨_, rfl⟩
  obtain ⟨Q', hQ'⟩ : ∃ F, F = guQ (subG mb CB NB WB QB) C N W Q := ⟨_, rfl⟩
  have hS : ∀ i, i < k → VFun (P ()) 51 [lv (C i) (N i) (W i) (Q i), .d (.sl mb 2 (lsF CB NB WB QB))] (fun r => ∃ c1 n1 V1 P1, r = .tup [lv c1 n1 V1 P1, .d (.int .i64 (E i))] ∧ n1 < 2 ^ 61 ∧ (E i = 0 → c1 = C' i ∧ n1 = N' i ∧ ∀ j, j < n1 → V1 j = W' i j ∧ P1 j = Q' i j)) := by
    rw [hE, hC', hN', hW', hQ']; exact hS
  have hK : ∀ i, i < m → VFun (P ()) 25 [kid G i, .d (.sl mb 2 (lsF CB NB WB QB))] (fun r => (F i = 0 ∧ r = .tup [kid G' i, .d (.int .i64 0)]) ∨ (F i ≠ 0 ∧ r = .tup [.agg [.d (.int .i64 0), .d (.int .i64 0), .d (.str ByteArray.empty), .d (.sl 0 2 g3), .d (.sl 0 5 g4)], .d (.int .i64 (F i))])) := by
    rw [hF]; exact hK
  rw [← hE, ← hF, ← hC', ← hN', ← hW', ← hQ']
  clear ih e e' hG hG' hE hF hC' hN' hW' hQ' el b4 b2 b1 hs
  refine vfunL (Tf := fun {_} _ => fzT [2] (T ())) (fun {_} => tabOk.frz [2]) [] 400 Tryz.func25 rfl (fun {_} => by kernel_rfl) rfl (Nat.le_of_ble_eq_true rfl) @fun ⟨_, _, _, _, _, _, _, _, _, _, _, _, _, _, _, _, _, _, _, _, _, _, _, _, _, _, _, _, _, _, _, _, _, _, _, _, _, _, wp, wf⟩ R hR => ?_
  cbv
  try simp only [wp, (show ∀ n : Nat, _ = n from fun n => wf.2.2.2.2.2.2.2.2.2.2.2.2.2.1 (Int.ofNat n)), getL, takeL, dropL, TK.isAgg, reduceIte]
  have hA : (∀ i, i < k → E i = 0) → (∀ i, i < m → F i = 0) → ∀ H r, Frz H r (tml op n s k C' N' W' Q' m G') → R (.tup [r, .d (.int .i64 0)]) H := fun h1 h2 H r hf => hR _ _ _ (.tup2 hf (.d _)) ⟨0, by rw [if_neg (by rw [Decidable.not_not]; exact firstF_zero.2 h1)]; exact (firstF_zero.2 h2).symm, rfl⟩
  have hB : ∀ i, i < k → (∀ j, j < i → E j = 0) → E i ≠ 0 → ∀ H, R (.tup [.agg [.d (.int .i64 0), .d (.int .i64 0), .d (.str ByteArray.empty), .nils, .nils], .d (.int .i64 (E i))]) H := fun i hi h1 h2 H => hR _ _ _ (.tup2 (.z5 g3 g4 _ _ _) (.d _)) ⟨E i, by rw [firstF_at h1 hi h2, if_pos h2], by rw [if_neg h2]⟩
  have hC : (∀ i, i < k → E i = 0) → ∀ i, i < m → (∀ j, j < i → F j = 0) → F i ≠ 0 → ∀ H, R (.tup [.agg [.d (.int .i64 0), .d (.int .i64 0), .d (.str ByteArray.empty), .nils, .nils], .d (.int .i64 (F i))]) H := fun h0 i hi h1 h2 H => hR _ _ _ (.tup2 (.z5 g3 g4 _ _ _) (.d _)) ⟨F i, by rw [if_neg (by rw [Decidable.not_not]; exact firstF_zero.2 h0), firstF_at h1 hi h2], by rw [if_neg h2]⟩
  clear hR
  repeat' first | (with_reducible refine And.intro ?_ ?_) | intro c9 | trivial | (refine Later.mk ?_; cbv; try simp only [wp, (show ∀ n : Nat, _ = n from fun n => wf.2.2.2.2.2.2.2.2.2.2.2.2.2.1 (Int.ofNat n)), (show _ = (0 : Nat) from wf.2.2.2.2.2.2.2.2.2.2.2.2.2.1 0), getL, takeL, dropL, TK.isAgg, reduceIte])
  refine loopGhostBox 1 3 2 (lsF C' N' W' Q') rfl rfl (H' := [.box [.d (.int .i64 0), .d (.int .i64 0), .d (.str ByteArray.empty), .nils, .nils], .box [.d (.int .i64 op), .d (.int .i64 n), .d (.str s), .ref 2 0 0 2, .nils], .arr 0 2 (lsF C' N' W' Q') 0]) rfl ?_
  refine loopL (Tf := fun {_} _ => fzT [2] (T ())) (fun {_} => tabOk.frz [2]) [] 400 (fun i : Nat => ⟨[.undef, .d (.sl mb 2 (lsF CB NB WB QB)), .iptr (fun x j => getL [.int .i64 op, .int .i64 n, .str s, .sl k 2 (lsF C N W Q), .sl m 5 G] j .nilp) 0 0 5, .undef, .ptr 0 0, .d (.int .i64 0), .ptr 1 0, .d (.int .i64 i), .undef, .undef, .undef, .undef, .undef, .undef, .undef, .undef, .undef, .undef, .undef, .undef, .undef, .undef, .undef, .undef, .undef, .undef, .undef, .undef, .undef, .undef, .undef, .undef, .undef, .undef, .undef, .undef, .undef, .undef, .undef, .undef, .undef, .undef, .undef, .undef, .undef, .undef, .undef, .undef, .undef, .undef, .undef, .undef, .undef, .undef, .undef, .undef, .undef, .undef, .undef, .undef, .undef, .undef, .undef, .undef, .undef, .undef, .undef, .undef, .undef, .undef, .undef, .undef, .undef, .undef, .undef], [.box [.undef, .undef, .undef, .undef, .undef], .box [.d (.int .i64 op), .d (.int .i64 n), .d (.str s), .ref 2 0 i 2, .nils], .arr i 2 (lsF C' N' W' Q') 0]⟩) (fun i => k - i) (fun i => i ≤ k ∧ ∀ j, j < i → E j = 0) 0 ⟨Nat.zero_le _, fun j hj => absurd hj (Nat.not_lt_zero _)⟩ (fun {_} => by kernel_rfl) ?_ (fun i => by kernel_rfl) @fun ⟨_, _, _, _, _, _, _, _, _, _, _, _, _, _, _, _, _, _, _, _, _, _, _, _, _, _, _, _, _, _, _, _, _, _, _, _, _, _, wpa, wfa⟩ i Bk hi hBk => ?_
  · (cbv; try simp only [wf, exD, exL, exT, exB, exA, leLs, leL_d, leL_undef, leL_nils, leA_nils, deq_refl, deq_int, deq_bool, deq_str, and_true, true_and, AObj.iter.injEq, nc, nc']; try simp (disch := omega) only [w64, w32, wu8])
    repeat' first | (with_reducible refine And.intro ?_ ?_) | trivial | exact rfl | exact Nat.zero_le _ | exact fun _ _ _ _ => trivial | exact fun i j hi => absurd hi (Nat.not_lt_zero _)
  obtain ⟨i1, i2⟩ := hi
  (cbv; try simp only [wp, (show ∀ n : Nat, _ = n from fun n => wf.2.2.2.2.2.2.2.2.2.2.2.2.2.1 (Int.ofNat n)), (show _ = (0 : Nat) from wf.2.2.2.2.2.2.2.2.2.2.2.2.2.1 0), wpa, (show ∀ n : Nat, _ = n from fun n => wfa.2.2.2.2.2.2.2.2.2.2.2.2.2.1 (Int.ofNat n)), (show _ = (0 : Nat) from wfa.2.2.2.2.2.2.2.2.2.2.2.2.2.1 0), getL, takeL, dropL, TK.isAgg, reduceIte])
  refine ⟨fun e => ?_, fun e => ?_⟩
  · have e : i < k := (by (try simp only [wf, wfa, nc, nc', Int.toNat_natCast, bsz, ByteArray.size_append, List.length_cons, List.length_nil] at *); (try simp (disch := omega) only [w64, w32, wu8] at *); first | done | omega)
    have hv := hS i e
    (refine Later.mk ?_; cbv; try simp only [wp, (show ∀ n : Nat, _ = n from fun n => wf.2.2.2.2.2.2.2.2.2.2.2.2.2.1 (Int.ofNat n)), (show _ = (0 : Nat) from wf.2.2.2.2.2.2.2.2.2.2.2.2.2.1 0), wpa, (show ∀ n : Nat, _ = n from fun n => wfa.2.2.2.2.2.2.2.2.2.2.2.2.2.1 (Int.ofNat n)), (show _ = (0 : Nat) from wfa.2.2.2.2.2.2.2.2.2.2.2.2.2.1 0), getL, takeL, dropL, TK.isAgg, reduceIte])
    repeat' first | (with_reducible refine And.intro ?_ ?_) | intro c9 | trivial | (refine Later.mk ?_; cbv; try simp only [wp, (show ∀ n : Nat, _ = n from fun n => wf.2.2.2.2.2.2.2.2.2.2.2.2.2.1 (Int.ofNat n)), (show _ = (0 : Nat) from wf.2.2.2.2.2.2.2.2.2.2.2.2.2.1 0), wpa, (show ∀ n : Nat, _ = n from fun n => wfa.2.2.2.2.2.2.2.2.2.2.2.2.2.1 (Int.ofNat n)), (show _ = (0 : Nat) from wfa.2.2.2.2.2.2.2.2.2.2.2.2.2.1 0), getL, takeL, dropL, TK.isAgg, reduceIte])
    all_goals first | exact Nat.zero_le _ | exact (by (try simp only [wf, wfa, nc, nc', Int.toNat_natCast, bsz, ByteArray.size_append, List.length_cons, List.length_nil] at *); (try simp (disch := omega) only [w64, w32, wu8] at *); first | done | omega) | skip
    all_goals
      refine hv.call ?_
      rintro _ ⟨c1, n1, V1, P1, rfl, hn, h0⟩
      (cbv; try simp only [wp, (show ∀ n : Nat, _ = n from fun n => wf.2.2.2.2.2.2.2.2.2.2.2.2.2.1 (Int.ofNat n)), (show _ = (0 : Nat) from wf.2.2.2.2.2.2.2.2.2.2.2.2.2.1 0), wpa, (show ∀ n : Nat, _ = n from fun n => wfa.2.2.2.2.2.2.2.2.2.2.2.2.2.1 (Int.ofNat n)), (show _ = (0 : Nat) from wfa.2.2.2.2.2.2.2.2.2.2.2.2.2.1 0), getL, takeL, dropL, TK.isAgg, reduceIte])
      repeat' first | (with_reducible refine And.intro ?_ ?_) | intro c9 | trivial | (refine Later.mk ?_; cbv; try simp only [wp, (show ∀ n : Nat, _ = n from fun n => wf.2.2.2.2.2.2.2.2.2.2.2.2.2.1 (Int.ofNat n)), (show _ = (0 : Nat) from wf.2.2.2.2.2.2.2.2.2.2.2.2.2.1 0), wpa, (show ∀ n : Nat, _ = n from fun n => wfa.2.2.2.2.2.2.2.2.2.2.2.2.2.1 (Int.ofNat n)), (show _ = (0 : Nat) from wfa.2.2.2.2.2.2.2.2.2.2.2.2.2.1 0), getL, takeL, dropL, TK.isAgg, reduceIte])
    all_goals first
      | exact Nat.zero_le _
      | exact (by (try simp only [wf, wfa, nc, nc', Int.toNat_natCast, bsz, ByteArray.size_append, List.length_cons, List.length_nil] at *); (try simp (disch := omega) only [w64, w32, wu8] at *); first | done | omega)
      | (exact hB i e i2 (by clear hA hB hC; exact (by (try simp only [wf, wfa, nc, nc', Int.toNat_natCast, bsz, ByteArray.size_append, List.length_cons, List.length_nil] at *); (try simp (disch := omega) only [w64, w32, wu8] at *); first | done | omega)) _)
      | (have e0 : E i = 0 := (by clear hA hB hC; exact (by (try simp only [wf, wfa, nc, nc', Int.toNat_natCast, bsz, ByteArray.size_append, List.length_cons, List.length_nil] at *); (try simp (disch := omega) only [w64, w32, wu8] at *); first | done | omega))
         obtain ⟨rfl, rfl, h3⟩ := h0 e0
         refine hBk (i + 1) _ (by omega) ⟨by omega, fun j hj => ?_⟩ ?_
         · by_cases ej : j = i
           · subst ej; exact e0
           · exact i2 j (by omega)
         · (cbv; try simp only [wf, wfa, exD, exL, exT, exB, exA, leLs, leL_d, leL_undef, leL_nils, leA_nils, deq_refl, deq_int, deq_bool, deq_str, and_true, true_and, AObj.iter.injEq, nc, nc']; try simp (disch := omega) only [w64, w32, wu8])
           ((try simp only [wf, wfa, nc, nc', Int.toNat_natCast, bsz, ByteArray.size_append, List.length_cons, List.length_nil] at *); (try simp (disch := omega) only [w64, w32, wu8] at *))
           repeat' first | (with_reducible refine And.intro ?_ ?_) | trivial | omega | exact Nat.zero_le _ | exact rfl
           exact fun x j hx hj => appF_ls h3 x j hx hj)
      | (trace_state; fail)
  · obtain rfl : i = k := (by (try simp only [wf, wfa, nc, nc', Int.toNat_natCast, bsz, ByteArray.size_append, List.length_cons, List.length_nil] at *); (try simp (disch := omega) only [w64, w32, wu8] at *); first | done | omega)
    (refine Later.mk ?_; cbv; try simp only [wp, (show ∀ n : Nat, _ = n from fun n => wf.2.2.2.2.2.2.2.2.2.2.2.2.2.1 (Int.ofNat n)), (show _ = (0 : Nat) from wf.2.2.2.2.2.2.2.2.2.2.2.2.2.1 0), wpa, (show ∀ n : Nat, _ = n from fun n => wfa.2.2.2.2.2.2.2.2.2.2.2.2.2.1 (Int.ofNat n)), (show _ = (0 : Nat) from wfa.2.2.2.2.2.2.2.2.2.2.2.2.2.1 0), getL, takeL, dropL, TK.isAgg, reduceIte])
    repeat' first | (with_reducible refine And.intro ?_ ?_) | intro c9 | trivial | (refine Later.mk ?_; cbv; try simp only [wp, (show ∀ n : Nat, _ = n from fun n => wf.2.2.2.2.2.2.2.2.2.2.2.2.2.1 (Int.ofNat n)), (show _ = (0 : Nat) from wf.2.2.2.2.2.2.2.2.2.2.2.2.2.1 0), wpa, (show ∀ n : Nat, _ = n from fun n => wfa.2.2.2.2.2.2.2.2.2.2.2.2.2.1 (Int.ofNat n)), (show _ = (0 : Nat) from wfa.2.2.2.2.2.2.2.2.2.2.2.2.2.1 0), getL, takeL, dropL, TK.isAgg, reduceIte])
    clear hBk hS
    refine loopGhostBox 1 4 5 G' rfl rfl (H' := [.box [.undef, .undef, .undef, .undef, .undef], .box [.d (.int .i64 op), .d (.int .i64 n), .d (.str s), .ref 2 0 i 2, .ref 3 0 0 5], .arr i 2 (lsF C' N' W' Q') 0, .arr 0 5 G' 0]) rfl ?_
    refine loopL (Tf := fun {_} _ => fzT [2] (T ())) (fun {_} => tabOk.frz [2]) [] 400 (fun j : Nat => ⟨[.undef, .d (.sl mb 2 (lsF CB NB WB QB)), .iptr (fun x j => getL [.int .i64 op, .int .i64 n, .str s, .sl i 2 (lsF C N W Q), .sl m 5 G] j .nilp) 0 0 5, .undef, .ptr 0 0, .d (.int .i64 0), .ptr 1 0, .undef, .undef, .undef, .d (.int .i64 j), .undef, .undef, .undef, .undef, .undef, .undef, .undef, .undef, .undef, .undef, .undef, .undef, .undef, .undef, .undef, .undef, .undef, .undef, .undef, .undef, .undef, .undef, .undef, .undef, .undef, .undef, .undef, .undef, .undef, .undef, .undef, .undef, .undef, .undef, .undef, .undef, .undef, .undef, .undef, .undef, .undef, .undef, .undef, .undef, .undef, .undef, .undef, .undef, .undef, .undef, .undef, .undef, .undef, .undef, .undef, .undef, .undef, .undef, .undef, .undef, .undef, .undef, .undef, .undef], [.box [.undef, .undef, .undef, .undef, .undef], .box [.d (.int .i64 op), .d (.int .i64 n), .d (.str s), .ref 2 0 i 2, .ref 3 0 j 5], .arr i 2 (lsF C' N' W' Q') 0, .arr j 5 G' 0]⟩) (fun j => m - j) (fun j => j ≤ m ∧ ∀ q, q < j → F q = 0) 0 ⟨Nat.zero_le _, fun j hj => absurd hj (Nat.not_lt_zero _)⟩ (fun {_} => by kernel_rfl) ?_ (fun i => by kernel_rfl) @fun ⟨_, _, _, _, _, _, _, _, _, _, _, _, _, _, _, _, _, _, _, _, _, _, _, _, _, _, _, _, _, _, _, _, _, _, _, _, _, _, wpb, wfb⟩ j Bk2 hj hBk2 => ?_
    · (cbv; try simp only [wf, wfa, exD, exL, exT, exB, exA, leLs, leL_d, leL_undef, leL_nils, leA_nils, deq_refl, deq_int, deq_bool, deq_str, and_true, true_and, AObj.iter.injEq, nc, nc']; try simp (disch := omega) only [w64, w32, wu8])
      repeat' first | (with_reducible refine And.intro ?_ ?_) | trivial | exact rfl | exact Nat.zero_le _ | exact fun _ _ _ _ => trivial | exact fun i j hi => absurd hi (Nat.not_lt_zero _)
    obtain ⟨j1, j2⟩ := hj
    (cbv; try simp only [wp, (show ∀ n : Nat, _ = n from fun n => wf.2.2.2.2.2.2.2.2.2.2.2.2.2.1 (Int.ofNat n)), (show _ = (0 : Nat) from wf.2.2.2.2.2.2.2.2.2.2.2.2.2.1 0), wpa, (show ∀ n : Nat, _ = n from fun n => wfa.2.2.2.2.2.2.2.2.2.2.2.2.2.1 (Int.ofNat n)), (show _ = (0 : Nat) from wfa.2.2.2.2.2.2.2.2.2.2.2.2.2.1 0), wpb, (show ∀ n : Nat, _ = n from fun n => wfb.2.2.2.2.2.2.2.2.2.2.2.2.2.1 (Int.ofNat n)), (show _ = (0 : Nat) from wfb.2.2.2.2.2.2.2.2.2.2.2.2.2.1 0), getL, takeL, dropL, TK.isAgg, reduceIte])
    refine ⟨fun e2 => ?_, fun e2 => ?_⟩
    · have e2 : j < m := (by (try simp only [wf, wfa, wfb, nc, nc', Int.toNat_natCast, bsz, ByteArray.size_append, List.length_cons, List.length_nil] at *); (try simp (disch := omega) only [w64, w32, wu8] at *); first | done | omega)
      have hv := hK j e2
      (refine Later.mk ?_; cbv; try simp only [wp, (show ∀ n : Nat, _ = n from fun n => wf.2.2.2.2.2.2.2.2.2.2.2.2.2.1 (Int.ofNat n)), (show _ = (0 : Nat) from wf.2.2.2.2.2.2.2.2.2.2.2.2.2.1 0), wpa, (show ∀ n : Nat, _ = n from fun n => wfa.2.2.2.2.2.2.2.2.2.2.2.2.2.1 (Int.ofNat n)), (show _ = (0 : Nat) from wfa.2.2.2.2.2.2.2.2.2.2.2.2.2.1 0), wpb, (show ∀ n : Nat, _ = n from fun n => wfb.2.2.2.2.2.2.2.2.2.2.2.2.2.1 (Int.ofNat n)), (show _ = (0 : Nat) from wfb.2.2.2.2.2.2.2.2.2.2.2.2.2.1 0), getL, takeL, dropL, TK.isAgg, reduceIte])
      repeat' first | (with_reducible refine And.intro ?_ ?_) | intro c9 | trivial | (refine Later.mk ?_; cbv; try simp only [wp, (show ∀ n : Nat, _ = n from fun n => wf.2.2.2.2.2.2.2.2.2.2.2.2.2.1 (Int.ofNat n)), (show _ = (0 : Nat) from wf.2.2.2.2.2.2.2.2.2.2.2.2.2.1 0), wpa, (show ∀ n : Nat, _ = n from fun n => wfa.2.2.2.2.2.2.2.2.2.2.2.2.2.1 (Int.ofNat n)), (show _ = (0 : Nat) from wfa.2.2.2.2.2.2.2.2.2.2.2.2.2.1 0), wpb, (show ∀ n : Nat, _ = n from fun n => wfb.2.2.2.2.2.2.2.2.2.2.2.2.2.1 (Int.ofNat n)), (show _ = (0 : Nat) from wfb.2.2.2.2.2.2.2.2.2.2.2.2.2.1 0), getL, takeL, dropL, TK.isAgg, reduceIte])
      all_goals first | exact Nat.zero_le _ | exact (by (try simp only [wf, wfa, wfb, nc, nc', Int.toNat_natCast, bsz, ByteArray.size_append, List.length_cons, List.length_nil] at *); (try simp (disch := omega) only [w64, w32, wu8] at *); first | done | omega) | skip
      all_goals
        refine hv.call ?_
        rintro _ (⟨hf, rfl⟩ | ⟨hf, rfl⟩)
      all_goals
        (cbv; try simp only [wp, (show ∀ n : Nat, _ = n from fun n => wf.2.2.2.2.2.2.2.2.2.2.2.2.2.1 (Int.ofNat n)), (show _ = (0 : Nat) from wf.2.2.2.2.2.2.2.2.2.2.2.2.2.1 0), wpa, (show ∀ n : Nat, _ = n from fun n => wfa.2.2.2.2.2.2.2.2.2.2.2.2.2.1 (Int.ofNat n)), (show _ = (0 : Nat) from wfa.2.2.2.2.2.2.2.2.2.2.2.2.2.1 0), wpb, (show ∀ n : Nat, _ = n from fun n => wfb.2.2.2.2.2.2.2.2.2.2.2.2.2.1 (Int.ofNat n)), (show _ = (0 : Nat) from wfb.2.2.2.2.2.2.2.2.2.2.2.2.2.1 0), getL, takeL, dropL, TK.isAgg, reduceIte])
        repeat' first | (with_reducible refine And.intro ?_ ?_) | intro c9 | trivial | (refine Later.mk ?_; cbv; try simp only [wp, (show ∀ n : Nat, _ = n from fun n => wf.2.2.2.2.2.2.2.2.2.2.2.2.2.1 (Int.ofNat n)), (show _ = (0 : Nat) from wf.2.2.2.2.2.2.2.2.2.2.2.2.2.1 0), wpa, (show ∀ n : Nat, _ = n from fun n => wfa.2.2.2.2.2.2.2.2.2.2.2.2.2.1 (Int.ofNat n)), (show _ = (0 : Nat) from wfa.2.2.2.2.2.2.2.2.2.2.2.2.2.1 0), wpb, (show ∀ n : Nat, _ = n from fun n => wfb.2.2.2.2.2.2.2.2.2.2.2.2.2.1 (Int.ofNat n)), (show _ = (0 : Nat) from wfb.2.2.2.2.2.2.2.2.2.2.2.2.2.1 0), getL, takeL, dropL, TK.isAgg, reduceIte])
      all_goals first
        | exact Nat.zero_le _
        | (clear hA hB hC; exact (by (try simp only [wf, wfa, wfb, nc, nc', Int.toNat_natCast, bsz, ByteArray.size_append, List.length_cons, List.length_nil] at *); (try simp (disch := omega) only [w64, w32, wu8] at *); first | done | omega))
        | (exact absurd hf (by clear hA hB hC; exact (by (try simp only [wf, wfa, wfb, nc, nc', Int.toNat_natCast, bsz, ByteArray.size_append, List.length_cons, List.length_nil] at *); (try simp (disch := omega) only [w64, w32, wu8] at *); first | done | omega)))
        | (exact hC i2 j e2 j2 hf _)
        | (refine hBk2 (j + 1) _ (by omega) ⟨by omega, fun q hq => ?_⟩ ?_
           · by_cases eq : q = j
             · subst eq; exact hf
             · exact j2 q (by omega)
           · (cbv; try simp only [wf, wfa, wfb, exD, exL, exT, exB, exA, leLs, leL_d, leL_undef, leL_nils, leA_nils, deq_refl, deq_int, deq_bool, deq_str, and_true, true_and, AObj.iter.injEq, nc, nc']; try simp (disch := omega) only [w64, w32, wu8])
             ((try simp only [wf, wfa, wfb, nc, nc', Int.toNat_natCast, bsz, ByteArray.size_append, List.length_cons, List.length_nil] at *); (try simp (disch := omega) only [w64, w32, wu8] at *))
             repeat' first | (with_reducible refine And.intro ?_ ?_) | trivial | omega | exact Nat.zero_le _ | exact rfl | exact fun _ _ _ _ => trivial
             exact fun x j hx hj => .of_eq (app_row2 (g' := G') (fun _ _ _ _ => rfl) (fun j hj => by
               match j, hj with
               | 0, _ | 1, _ | 2, _ | 3, _ | 4, _ => rfl) x j hx hj))
        | (trace_state; fail)
    · obtain rfl : j = m := (by (try simp only [wf, wfa, wfb, nc, nc', Int.toNat_natCast, bsz, ByteArray.size_append, List.length_cons, List.length_nil] at *); (try simp (disch := omega) only [w64, w32, wu8] at *); first | done | omega)
      (refine Later.mk ?_; cbv; try simp only [wp, (show ∀ n : Nat, _ = n from fun n => wf.2.2.2.2.2.2.2.2.2.2.2.2.2.1 (Int.ofNat n)), (show _ = (0 : Nat) from wf.2.2.2.2.2.2.2.2.2.2.2.2.2.1 0), wpa, (show ∀ n : Nat, _ = n from fun n => wfa.2.2.2.2.2.2.2.2.2.2.2.2.2.1 (Int.ofNat n)), (show _ = (0 : Nat) from wfa.2.2.2.2.2.2.2.2.2.2.2.2.2.1 0), wpb, (show ∀ n : Nat, _ = n from fun n => wfb.2.2.2.2.2.2.2.2.2.2.2.2.2.1 (Int.ofNat n)), (show _ = (0 : Nat) from wfb.2.2.2.2.2.2.2.2.2.2.2.2.2.1 0), getL, takeL, dropL, TK.isAgg, reduceIte])
      repeat' first | (with_reducible refine And.intro ?_ ?_) | intro c9 | trivial | (refine Later.mk ?_; cbv; try simp only [wp, (show ∀ n : Nat, _ = n from fun n => wf.2.2.2.2.2.2.2.2.2.2.2.2.2.1 (Int.ofNat n)), (show _ = (0 : Nat) from wf.2.2.2.2.2.2.2.2.2.2.2.2.2.1 0), wpa, (show ∀ n : Nat, _ = n from fun n => wfa.2.2.2.2.2.2.2.2.2.2.2.2.2.1 (Int.ofNat n)), (show _ = (0 : Nat) from wfa.2.2.2.2.2.2.2.2.2.2.2.2.2.1 0), wpb, (show ∀ n : Nat, _ = n from fun n => wfb.2.2.2.2.2.2.2.2.2.2.2.2.2.1 (Int.ofNat n)), (show _ = (0 : Nat) from wfb.2.2.2.2.2.2.2.2.2.2.2.2.2.1 0), getL, takeL, dropL, TK.isAgg, reduceIte])
      all_goals exact hA i2 j2 _ _ (.agg _ _ rfl (frzs_cons (.d _) (frzs_cons (.d _) (frzs_cons (.d _) (frzs_cons (.ref0 2 i 2 i 0 _ rfl rfl) (frzs_cons (.ref0 3 j 5 j 0 _ rfl rfl) (frzs_nil _)))))))
end Go.VM

/- Lists of numbers and of texts, as rows. -/
namespace Go.VM
open Go
set_option linter.unusedVariables false
set_option linter.unusedSimpArgs false
/-- two rows, one behind the other -/
def catN (U : Nat → Int) (l : Nat) (V : Nat → Int) : Nat → Int := fun x => if x < l then U x else V (x - l)
theorem numsL_succ (U : Nat → Int) (n : Nat) : numsL U (n + 1) = numsL U n ++ [U n] := by simp [numsL, List.range_succ]
theorem numsL_congr {U V : Nat → Int} {n : Nat} (h : ∀ i, i < n → U i = V i) : numsL U n = numsL V n := by
  unfold numsL
  exact List.map_congr_left fun i hi => h i (List.mem_range.1 hi)
theorem numsL_cat (U V : Nat → Int) (l : Nat) : ∀ m, numsL (catN U l V) (l + m) = numsL U l ++ numsL V m
  | 0 => by
    rw [Nat.add_zero, show numsL V 0 = [] from rfl, List.append_nil]
    exact numsL_congr fun i hi => if_pos hi
  | m + 1 => by
    rw [← Nat.add_assoc, numsL_succ, numsL_cat U V l m, numsL_succ, List.append_assoc]
    congr 3
    unfold catN
    rw [if_neg (by omega), Nat.add_sub_cancel_left]
theorem appF_nu {g : Nat → Nat → D} (U V : Nat → Int) (l x j : Nat) (hg : ∀ i, g i j = .int .i64 (V i)) : appF l (nuF U) g x j = nuF (catN U l V) x j := by
  unfold appF nuF catN
  by_cases h : x < l
  · rw [if_pos h, if_pos h]
  · rw [if_neg h, if_neg h, hg]
/-- a number put into ascending numbers -/
def ordL (v : Int) : List Int → List Int
  | [] => [v]
  | x :: l => if v < x then v :: x :: l else if v = x then x :: l else x :: ordL v l
theorem ordL_mem (v : Int) : ∀ (l : List Int) (x : Int), x ∈ ordL v l ↔ x = v ∨ x ∈ l
  | [], x => by simp [ordL]
  | y :: l, x => by
    unfold ordL
    split
    · simp
    · split
      · subst_vars; simp
      · simp only [List.mem_cons, ordL_mem v l x]
        constructor
        · rintro (h | h | h)
          · exact .inr (.inl h)
          · exact .inl h
          · exact .inr (.inr h)
        · rintro (h | h | h)
          · exact .inr (.inl h)
          · exact .inl h
          · exact .inr (.inr h)
theorem ordL_asc (v : Int) : ∀ {l : List Int}, l.Pairwise (· < ·) → (ordL v l).Pairwise (· < ·)
  | [], _ => by simp [ordL]
  | y :: l, h => by
    obtain ⟨h1, h2⟩ := List.pairwise_cons.1 h
    unfold ordL
    split
    · refine List.pairwise_cons.2 ⟨fun z hz => ?_, h⟩
      rcases List.mem_cons.1 hz with rfl | hz
      · assumption
      · have := h1 z hz; omega
    · split
      · exact h
      · refine List.pairwise_cons.2 ⟨fun z hz => ?_, ordL_asc v h2⟩
        rcases (ordL_mem v l z).1 hz with rfl | hz
        · omega
        · exact h1 z hz
/-- what is still to come of a row into which a number is put -/
def ordR (v : Int) (done : Bool) (l : List Int) : List Int := if done then l else ordL v l
/-- a list of texts, of a row -/
def textL (S : Nat → ByteArray) (n : Nat) : List ByteArray := (List.range n).map S
def catS (S : Nat → ByteArray) (l : Nat) (v : ByteArray) : Nat → ByteArray := fun x => if x < l then S x else v
theorem textL_succ (S : Nat → ByteArray) (n : Nat) : textL S (n + 1) = textL S n ++ [S n] := by simp [textL, List.range_succ]
theorem textL_len (S : Nat → ByteArray) (n : Nat) : (textL S n).length = n := by simp [textL]
theorem textL_mem {S : Nat → ByteArray} {n : Nat} {v : ByteArray} : v ∈ textL S n ↔ ∃ i, i < n ∧ S i = v := by
  unfold textL; simp
theorem textL_cat (S : Nat → ByteArray) (n : Nat) (v : ByteArray) : textL (catS S n v) (n + 1) = textL S n ++ [v] := by
  rw [textL_succ]
  congr 1
  · unfold textL
    exact List.map_congr_left fun i hi => if_pos (List.mem_range.1 hi)
  · unfold catS; rw [if_neg (Nat.lt_irrefl _)]
theorem appF_st (S : Nat → ByteArray) (l : Nat) (v : ByteArray) {g : Nat → Nat → D} (x j : Nat) (hg : g 0 j = .str v) (hx : x < l + 1) : appF l (stF S) g x j = stF (catS S l v) x j := by
  unfold appF stF catS
  by_cases h : x < l
  · rw [if_pos h, if_pos h]
  · obtain rfl : x = l := by omega
    rw [if_neg h, if_neg h, Nat.sub_self, hg]
theorem textL_ext {S S' : Nat → ByteArray} {n n' : Nat} (h : textL S' n' = textL S n) : n' = n ∧ ∀ j, j < n → S' j = S j := by
  have hn : n' = n := by have := congrArg List.length h; rw [textL_len, textL_len] at this; exact this
  refine ⟨hn, fun j hj => ?_⟩
  have h1 : (textL S n)[j]? = some (S j) := by simp [textL, hj]
  have h2 : (textL S' n')[j]? = some (S' j) := by simp [textL, hn, hj]
  rw [← h, h2] at h1
  exact Option.some.inj h1
theorem addN_yes {op : Int} {s : ByteArray} {l : List ByteArray} (h : IsM op) (h' : s ∉ l) : addN op s l = l ++ [s] := by unfold addN; rw [if_pos ⟨h, h'⟩]
theorem addN_no {op : Int} {s : ByteArray} {l : List ByteArray} (h : ¬ IsM op ∨ s ∈ l) : addN op s l = l := by
  unfold addN
  rw [if_neg]
  rintro ⟨h1, h2⟩
  exact h.elim (fun h => h h1) h2
end Go.VM

namespace Go.VM
open Go.Proofs Go
set_option maxRecDepth 100000
set_option linter.unusedVariables false
set_option linter.unusedSimpArgs false
theorem idxS (z : Nat) (S : Nat → ByteArray) (v : ByteArray) (hz : z < 2 ^ 62) : VFun (P ()) 90 [.d (.sl z 1 (stF S)), .d (.str v)] (fun r => ∃ i : Int, (0 ≤ i ↔ v ∈ textL S z) ∧ r = .d (.int .i64 i)) := by
  refine vfunO (Tf := fun {_} _ => fzT [] (T ())) (fun {_} => tabOk.frz []) [] 400 Tryz.func90 rfl (fun {_} => by kernel_rfl) rfl (Nat.le_of_ble_eq_true rfl) @fun ⟨_, _, _, _, _, _, _, _, _, _, _, _, _, _, _, _, _, _, _, _, _, _, _, _, _, _, _, _, _, _, _, _, _, _, _, _, _, _, wp, wf⟩ R hR => ?_
  cbv
  try simp only [wp, (show ∀ n : Nat, _ = n from fun n => wf.2.2.2.2.2.2.2.2.2.2.2.2.2.1 (Int.ofNat n)), getL, takeL, dropL, TK.isAgg, reduceIte]
  replace hR := fun (i : Int) H h => hR _ H _ (.d (.int .i64 i)) ⟨i, h, rfl⟩
  refine loopO (Tf := fun {_} _ => fzT [] (T ())) (fun {_} => tabOk.frz []) [] 400 (fun i : Nat => ⟨[.d (.sl z 1 (stF S)), .d (.str v), .undef, .undef, .undef, .undef, .d (.sl z 1 (stF S)), .d (.int .i64 z), .d (.int .i64 i), .undef, .undef, .undef, .undef, .undef, .undef, .undef, .undef, .undef, .undef], []⟩) (fun i => z - i) (fun i => i ≤ z ∧ ∀ k, k < i → S k ≠ v) 0 ⟨Nat.zero_le _, fun k hk => absurd hk (Nat.not_lt_zero _)⟩ (fun {_} => by kernel_rfl) ?_ (fun i => by kernel_rfl) @fun ⟨_, _, _, _, _, _, _, _, _, _, _, _, _, _, _, _, _, _, _, _, _, _, _, _, _, _, _, _, _, _, _, _, _, _, _, _, _, _, wpa, wfa⟩ i Bk hi hBk => ?_
  · ((cbv; try simp only [wf, exD, exL, exT, exB, exA, leLs, leL_d, leL_undef, leL_nils, leA_nils, deq_refl, deq_int, deq_bool, deq_str, and_true, true_and, AObj.iter.injEq, nc, nc']; try simp (disch := omega) only [w64, w32, wu8]); first | done | rfl | omega | (simp; done) | (simp; omega) | skip)
  obtain ⟨i1, i2⟩ := hi
  (cbv; try simp only [wp, (show ∀ n : Nat, _ = n from fun n => wf.2.2.2.2.2.2.2.2.2.2.2.2.2.1 (Int.ofNat n)), (show _ = (0 : Nat) from wf.2.2.2.2.2.2.2.2.2.2.2.2.2.1 0), wpa, (show ∀ n : Nat, _ = n from fun n => wfa.2.2.2.2.2.2.2.2.2.2.2.2.2.1 (Int.ofNat n)), (show _ = (0 : Nat) from wfa.2.2.2.2.2.2.2.2.2.2.2.2.2.1 0), getL, takeL, dropL, TK.isAgg, reduceIte])
  refine ⟨fun e => ?_, fun e => ?_⟩
  · have e : i < z := (by (try simp only [wf, wfa, nc, nc', Int.toNat_natCast, bsz, ByteArray.size_append, List.length_cons, List.length_nil] at *); (try simp (disch := omega) only [w64, w32, wu8] at *); first | done | omega)
    (refine Later.mk ?_; cbv; try simp only [wp, (show ∀ n : Nat, _ = n from fun n => wf.2.2.2.2.2.2.2.2.2.2.2.2.2.1 (Int.ofNat n)), (show _ = (0 : Nat) from wf.2.2.2.2.2.2.2.2.2.2.2.2.2.1 0), wpa, (show ∀ n : Nat, _ = n from fun n => wfa.2.2.2.2.2.2.2.2.2.2.2.2.2.1 (Int.ofNat n)), (show _ = (0 : Nat) from wfa.2.2.2.2.2.2.2.2.2.2.2.2.2.1 0), getL, takeL, dropL, TK.isAgg, reduceIte])
    repeat' first | with_reducible refine And.intro ?_ ?_ | intro c9
    all_goals first | exact (by (try simp only [wf, wfa, nc, nc', Int.toNat_natCast, bsz, ByteArray.size_append, List.length_cons, List.length_nil] at *); (try simp (disch := omega) only [w64, w32, wu8] at *); first | done | omega) | trivial | skip
    all_goals (refine Later.mk ?_; cbv; try simp only [wp, (show ∀ n : Nat, _ = n from fun n => wf.2.2.2.2.2.2.2.2.2.2.2.2.2.1 (Int.ofNat n)), (show _ = (0 : Nat) from wf.2.2.2.2.2.2.2.2.2.2.2.2.2.1 0), wpa, (show ∀ n : Nat, _ = n from fun n => wfa.2.2.2.2.2.2.2.2.2.2.2.2.2.1 (Int.ofNat n)), (show _ = (0 : Nat) from wfa.2.2.2.2.2.2.2.2.2.2.2.2.2.1 0), getL, takeL, dropL, TK.isAgg, reduceIte])
    all_goals first
      | (refine hR _ _ ⟨fun _ => textL_mem.2 ⟨i, e, by first | exact c9 | exact c9.symm⟩, fun _ => ?_⟩
         clear hR
         first | exact Int.natCast_nonneg _ | exact (by (try simp only [wf, wfa, nc, nc', Int.toNat_natCast, bsz, ByteArray.size_append, List.length_cons, List.length_nil] at *); (try simp (disch := omega) only [w64, w32, wu8] at *); first | done | omega))
      | (refine hBk (i + 1) _ (by omega) ⟨by omega, fun k hk => ?_⟩ ?_
         · by_cases e2 : k = i
           · subst e2; first | exact c9 | exact fun h => c9 h.symm
           · exact i2 k (by omega)
         · ((cbv; try simp only [wf, wfa, exD, exL, exT, exB, exA, leLs, leL_d, leL_undef, leL_nils, leA_nils, deq_refl, deq_int, deq_bool, deq_str, and_true, true_and, AObj.iter.injEq, nc, nc']; try simp (disch := omega) only [w64, w32, wu8]); first | done | rfl | omega | (simp; done) | (simp; omega) | skip))
      | (fail)
  · obtain rfl : i = z := (by (try simp only [wf, wfa, nc, nc', Int.toNat_natCast, bsz, ByteArray.size_append, List.length_cons, List.length_nil] at *); (try simp (disch := omega) only [w64, w32, wu8] at *); first | done | omega)
    (refine Later.mk ?_; cbv; try simp only [wp, (show ∀ n : Nat, _ = n from fun n => wf.2.2.2.2.2.2.2.2.2.2.2.2.2.1 (Int.ofNat n)), (show _ = (0 : Nat) from wf.2.2.2.2.2.2.2.2.2.2.2.2.2.1 0), wpa, (show ∀ n : Nat, _ = n from fun n => wfa.2.2.2.2.2.2.2.2.2.2.2.2.2.1 (Int.ofNat n)), (show _ = (0 : Nat) from wfa.2.2.2.2.2.2.2.2.2.2.2.2.2.1 0), getL, takeL, dropL, TK.isAgg, reduceIte])
    refine hR _ _ ⟨fun h => absurd h (by clear hR; ((try simp only [wf, wfa, nc, nc', Int.toNat_natCast, bsz, ByteArray.size_append, List.length_cons, List.length_nil] at *); (try simp (disch := omega) only [w64, w32, wu8] at *)); decide), fun h => ?_⟩
    obtain ⟨k, hk, e⟩ := textL_mem.1 h
    exact absurd e (i2 k hk)
theorem hasS (z : Nat) (S : Nat → ByteArray) (v : ByteArray) (hz : z < 2 ^ 62) : VFun (P ()) 99 [.d (.sl z 1 (stF S)), .d (.str v)] (fun r => ∃ i : Int, (0 ≤ i ↔ v ∈ textL S z) ∧ r = .d (.int .i64 i)) := by
  refine vfunO (Tf := fun {_} _ => fzT [] (T ())) (fun {_} => tabOk.frz []) [] 400 Tryz.func99 rfl (fun {_} => by kernel_rfl) rfl (Nat.le_of_ble_eq_true rfl) @fun ⟨_, _, _, _, _, _, _, _, _, _, _, _, _, _, _, _, _, _, _, _, _, _, _, _, _, _, _, _, _, _, _, _, _, _, _, _, _, _, wp, wf⟩ R hR => ?_
  cbv
  try simp only [wp, (show ∀ n : Nat, _ = n from fun n => wf.2.2.2.2.2.2.2.2.2.2.2.2.2.1 (Int.ofNat n)), getL, takeL, dropL, TK.isAgg, reduceIte]
  replace hR := fun (i : Int) H h => hR _ H _ (.d (.int .i64 i)) ⟨i, h, rfl⟩
  refine loopO (Tf := fun {_} _ => fzT [] (T ())) (fun {_} => tabOk.frz []) [] 400 (fun i : Nat => ⟨[.d (.sl z 1 (stF S)), .d (.str v), .undef, .undef, .undef, .d (.int .i64 i), .undef, .undef, .undef, .undef, .undef, .undef, .undef, .undef, .undef, .undef, .undef, .undef, .undef], []⟩) (fun i => z - i) (fun i => i ≤ z ∧ ∀ k, k < i → S k ≠ v) 0 ⟨Nat.zero_le _, fun k hk => absurd hk (Nat.not_lt_zero _)⟩ (fun {_} => by kernel_rfl) ?_ (fun i => by kernel_rfl) @fun ⟨_, _, _, _, _, _, _, _, _, _, _, _, _, _, _, _, _, _, _, _, _, _, _, _, _, _, _, _, _, _, _, _, _, _, _, _, _, _, wpa, wfa⟩ i Bk hi hBk => ?_
  · ((cbv; try simp only [wf, exD, exL, exT, exB, exA, leLs, leL_d, leL_undef, leL_nils, leA_nils, deq_refl, deq_int, deq_bool, deq_str, and_true, true_and, AObj.iter.injEq, nc, nc']; try simp (disch := omega) only [w64, w32, wu8]); first | done | rfl | omega | (simp; done) | (simp; omega) | skip)
  obtain ⟨i1, i2⟩ := hi
  (cbv; try simp only [wp, (show ∀ n : Nat, _ = n from fun n => wf.2.2.2.2.2.2.2.2.2.2.2.2.2.1 (Int.ofNat n)), (show _ = (0 : Nat) from wf.2.2.2.2.2.2.2.2.2.2.2.2.2.1 0), wpa, (show ∀ n : Nat, _ = n from fun n => wfa.2.2.2.2.2.2.2.2.2.2.2.2.2.1 (Int.ofNat n)), (show _ = (0 : Nat) from wfa.2.2.2.2.2.2.2.2.2.2.2.2.2.1 0), getL, takeL, dropL, TK.isAgg, reduceIte])
  refine ⟨fun e => ?_, fun e => ?_⟩
  · have e : i < z := (by (try simp only [wf, wfa, nc, nc', Int.toNat_natCast, bsz, ByteArray.size_append, List.length_cons, List.length_nil] at *); (try simp (disch := omega) only [w64, w32, wu8] at *); first | done | omega)
    (refine Later.mk ?_; cbv; try simp only [wp, (show ∀ n : Nat, _ = n from fun n => wf.2.2.2.2.2.2.2.2.2.2.2.2.2.1 (Int.ofNat n)), (show _ = (0 : Nat) from wf.2.2.2.2.2.2.2.2.2.2.2.2.2.1 0), wpa, (show ∀ n : Nat, _ = n from fun n => wfa.2.2.2.2.2.2.2.2.2.2.2.2.2.1 (Int.ofNat n)), (show _ = (0 : Nat) from wfa.2.2.2.2.2.2.2.2.2.2.2.2.2.1 0), getL, takeL, dropL, TK.isAgg, reduceIte])
    repeat' first | with_reducible refine And.intro ?_ ?_ | intro c9
    all_goals first | exact (by (try simp only [wf, wfa, nc, nc', Int.toNat_natCast, bsz, ByteArray.size_append, List.length_cons, List.length_nil] at *); (try simp (disch := omega) only [w64, w32, wu8] at *); first | done | omega) | trivial | skip
    all_goals (refine Later.mk ?_; cbv; try simp only [wp, (show ∀ n : Nat, _ = n from fun n => wf.2.2.2.2.2.2.2.2.2.2.2.2.2.1 (Int.ofNat n)), (show _ = (0 : Nat) from wf.2.2.2.2.2.2.2.2.2.2.2.2.2.1 0), wpa, (show ∀ n : Nat, _ = n from fun n => wfa.2.2.2.2.2.2.2.2.2.2.2.2.2.1 (Int.ofNat n)), (show _ = (0 : Nat) from wfa.2.2.2.2.2.2.2.2.2.2.2.2.2.1 0), getL, takeL, dropL, TK.isAgg, reduceIte])
    all_goals first
      | (refine hR _ _ ⟨fun _ => textL_mem.2 ⟨i, e, by first | exact c9 | exact c9.symm⟩, fun _ => ?_⟩
         clear hR
         first | exact Int.natCast_nonneg _ | exact (by (try simp only [wf, wfa, nc, nc', Int.toNat_natCast, bsz, ByteArray.size_append, List.length_cons, List.length_nil] at *); (try simp (disch := omega) only [w64, w32, wu8] at *); first | done | omega))
      | (refine hBk (i + 1) _ (by omega) ⟨by omega, fun k hk => ?_⟩ ?_
         · by_cases e2 : k = i
           · subst e2; first | exact c9 | exact fun h => c9 h.symm
           · exact i2 k (by omega)
         · ((cbv; try simp only [wf, wfa, exD, exL, exT, exB, exA, leLs, leL_d, leL_undef, leL_nils, leA_nils, deq_refl, deq_int, deq_bool, deq_str, and_true, true_and, AObj.iter.injEq, nc, nc']; try simp (disch := omega) only [w64, w32, wu8]); first | done | rfl | omega | (simp; done) | (simp; omega) | skip))
      | (fail)
  · obtain rfl : i = z := (by (try simp only [wf, wfa, nc, nc', Int.toNat_natCast, bsz, ByteArray.size_append, List.length_cons, List.length_nil] at *); (try simp (disch := omega) only [w64, w32, wu8] at *); first | done | omega)
    (refine Later.mk ?_; cbv; try simp only [wp, (show ∀ n : Nat, _ = n from fun n => wf.2.2.2.2.2.2.2.2.2.2.2.2.2.1 (Int.ofNat n)), (show _ = (0 : Nat) from wf.2.2.2.2.2.2.2.2.2.2.2.2.2.1 0), wpa, (show ∀ n : Nat, _ = n from fun n => wfa.2.2.2.2.2.2.2.2.2.2.2.2.2.1 (Int.ofNat n)), (show _ = (0 : Nat) from wfa.2.2.2.2.2.2.2.2.2.2.2.2.2.1 0), getL, takeL, dropL, TK.isAgg, reduceIte])
    refine hR _ _ ⟨fun h => absurd h (by clear hR; ((try simp only [wf, wfa, nc, nc', Int.toNat_natCast, bsz, ByteArray.size_append, List.length_cons, List.length_nil] at *); (try simp (disch := omega) only [w64, w32, wu8] at *)); decide), fun h => ?_⟩
    obtain ⟨k, hk, e⟩ := textL_mem.1 h
    exact absurd e (i2 k hk)
theorem contS (z : Nat) (S : Nat → ByteArray) (v : ByteArray) (hz : z < 2 ^ 62) : VFun (P ()) 50 [.d (.sl z 1 (stF S)), .d (.str v)] (fun r => ∃ b : Bool, (b = true ↔ v ∈ textL S z) ∧ r = .d (.bool b)) := by
  have hi := idxS z S v hz
  refine vfunO (Tf := fun {_} _ => fzT [] (T ())) (fun {_} => tabOk.frz []) [] 400 Tryz.func50 rfl (fun {_} => by kernel_rfl) rfl (Nat.le_of_ble_eq_true rfl) @fun ⟨_, _, _, _, _, _, _, _, _, _, _, _, _, _, _, _, _, _, _, _, _, _, _, _, _, _, _, _, _, _, _, _, _, _, _, _, _, _, wp, wf⟩ R hR => ?_
  cbv
  try simp only [wp, (show ∀ n : Nat, _ = n from fun n => wf.2.2.2.2.2.2.2.2.2.2.2.2.2.1 (Int.ofNat n)), getL, takeL, dropL, TK.isAgg, reduceIte]
  replace hR := fun b H h => hR _ H _ (.d (.bool b)) ⟨b, h, rfl⟩
  refine hi.call ?_
  rintro _ ⟨i, h, rfl⟩
  (cbv; try simp only [wp, (show ∀ n : Nat, _ = n from fun n => wf.2.2.2.2.2.2.2.2.2.2.2.2.2.1 (Int.ofNat n)), (show _ = (0 : Nat) from wf.2.2.2.2.2.2.2.2.2.2.2.2.2.1 0), getL, takeL, dropL, TK.isAgg, reduceIte])
  repeat' first | with_reducible refine And.intro ?_ ?_ | intro c9
  · exact hR _ _ (iffT (h.1 c9))
  · exact hR _ _ (iffF fun h' => by have := h.2 h'; omega)
theorem EqStrings (n m : Nat) (S S' : Nat → ByteArray) (hn : n < 2 ^ 62) (hm : m < 2 ^ 62) : VFun (P ()) 23 [.d (.sl n 1 (stF S)), .d (.sl m 1 (stF S'))] (fun r => ∃ b : Bool, (b = true ↔ m = n ∧ ∀ j, j < n → S' j = S j) ∧ r = .d (.bool b)) := by
  refine vfunO (Tf := fun {_} _ => fzT [] (T ())) (fun {_} => tabOk.frz []) [(6, upF 0 9)] 400 Tryz.func23 rfl (fun {_} => by kernel_rfl) rfl (Nat.le_of_ble_eq_true rfl) @fun ⟨_, _, _, _, _, _, _, _, _, _, _, _, _, _, _, _, _, _, _, _, _, _, _, _, _, _, _, _, _, _, _, _, _, _, _, _, _, _, wp, wf⟩ R hR => ?_
  cbv
  try simp only [wp, (show ∀ n : Nat, _ = n from fun n => wf.2.2.2.2.2.2.2.2.2.2.2.2.2.1 (Int.ofNat n)), getL, takeL, dropL, TK.isAgg, reduceIte]
  replace hR := fun b H h => hR _ H _ (.d (.bool b)) ⟨b, h, rfl⟩
  repeat' first | with_reducible refine And.intro ?_ ?_ | intro c9
  all_goals (refine Later.mk ?_; cbv; try simp only [wp, (show ∀ n : Nat, _ = n from fun n => wf.2.2.2.2.2.2.2.2.2.2.2.2.2.1 (Int.ofNat n)), (show _ = (0 : Nat) from wf.2.2.2.2.2.2.2.2.2.2.2.2.2.1 0), getL, takeL, dropL, TK.isAgg, reduceIte])
  · exact hR _ _ (iffF fun h => c9 (by have h1 := h.1; exact (by (try simp only [wf, nc, nc', Int.toNat_natCast, bsz, ByteArray.size_append, List.length_cons, List.length_nil] at *); (try simp (disch := omega) only [w64, w32, wu8] at *); first | done | omega)))
  · obtain rfl : n = m := (by (try simp only [wf, nc, nc', Int.toNat_natCast, bsz, ByteArray.size_append, List.length_cons, List.length_nil] at *); (try simp (disch := omega) only [w64, w32, wu8] at *); first | done | omega)
    refine loopO (Tf := fun {_} _ => fzT [] (T ())) (fun {_} => tabOk.frz []) [(6, upF 0 9)] 400 (fun i : Nat => ⟨[.d (.sl n 1 (stF S)), .d (.sl n 1 (stF S')), .undef, .undef, .d (.bool false), .d (.int .i64 i), .undef, .undef, .undef, .undef, .undef, .undef, .undef, .undef, .undef, .undef, .undef, .undef, .undef, .undef, .undef, .undef, .undef, .undef, .undef, .undef], []⟩) (fun i => n - i) (fun i => i ≤ n ∧ ∀ k, k < i → S' k = S k) 0 ⟨Nat.zero_le _, fun k hk => absurd hk (Nat.not_lt_zero _)⟩ (fun {_} => by kernel_rfl) ?_ (fun i => by kernel_rfl) @fun ⟨_, _, _, _, _, _, _, _, _, _, _, _, _, _, _, _, _, _, _, _, _, _, _, _, _, _, _, _, _, _, _, _, _, _, _, _, _, _, wpa, wfa⟩ i Bk hi hBk => ?_
    · ((cbv; try simp only [wf, exD, exL, exT, exB, exA, leLs, leL_d, leL_undef, leL_nils, leA_nils, deq_refl, deq_int, deq_bool, deq_str, and_true, true_and, AObj.iter.injEq, nc, nc']; try simp (disch := omega) only [w64, w32, wu8]); first | done | rfl | omega | (simp; done) | (simp; omega) | skip)
    obtain ⟨i1, i2⟩ := hi
    (cbv; try simp only [wp, (show ∀ n : Nat, _ = n from fun n => wf.2.2.2.2.2.2.2.2.2.2.2.2.2.1 (Int.ofNat n)), (show _ = (0 : Nat) from wf.2.2.2.2.2.2.2.2.2.2.2.2.2.1 0), wpa, (show ∀ n : Nat, _ = n from fun n => wfa.2.2.2.2.2.2.2.2.2.2.2.2.2.1 (Int.ofNat n)), (show _ = (0 : Nat) from wfa.2.2.2.2.2.2.2.2.2.2.2.2.2.1 0), getL, takeL, dropL, TK.isAgg, reduceIte])
    refine ⟨fun e => ?_, fun e => ?_⟩
    · have e : i < n := (by (try simp only [wf, wfa, nc, nc', Int.toNat_natCast, bsz, ByteArray.size_append, List.length_cons, List.length_nil] at *); (try simp (disch := omega) only [w64, w32, wu8] at *); first | done | omega)
      (refine Later.mk ?_; cbv; try simp only [wp, (show ∀ n : Nat, _ = n from fun n => wf.2.2.2.2.2.2.2.2.2.2.2.2.2.1 (Int.ofNat n)), (show _ = (0 : Nat) from wf.2.2.2.2.2.2.2.2.2.2.2.2.2.1 0), wpa, (show ∀ n : Nat, _ = n from fun n => wfa.2.2.2.2.2.2.2.2.2.2.2.2.2.1 (Int.ofNat n)), (show _ = (0 : Nat) from wfa.2.2.2.2.2.2.2.2.2.2.2.2.2.1 0), getL, takeL, dropL, TK.isAgg, reduceIte])
      repeat' first | with_reducible refine And.intro ?_ ?_ | intro c9
      all_goals first | exact (by (try simp only [wf, wfa, nc, nc', Int.toNat_natCast, bsz, ByteArray.size_append, List.length_cons, List.length_nil] at *); (try simp (disch := omega) only [w64, w32, wu8] at *); first | done | omega) | trivial | skip
      · (refine Later.mk ?_; cbv; try simp only [wp, (show ∀ n : Nat, _ = n from fun n => wf.2.2.2.2.2.2.2.2.2.2.2.2.2.1 (Int.ofNat n)), (show _ = (0 : Nat) from wf.2.2.2.2.2.2.2.2.2.2.2.2.2.1 0), wpa, (show ∀ n : Nat, _ = n from fun n => wfa.2.2.2.2.2.2.2.2.2.2.2.2.2.1 (Int.ofNat n)), (show _ = (0 : Nat) from wfa.2.2.2.2.2.2.2.2.2.2.2.2.2.1 0), getL, takeL, dropL, TK.isAgg, reduceIte])
        exact hR _ _ (iffF fun h => c9 (h.2 i e).symm)
      · (refine Later.mk ?_; cbv; try simp only [wp, (show ∀ n : Nat, _ = n from fun n => wf.2.2.2.2.2.2.2.2.2.2.2.2.2.1 (Int.ofNat n)), (show _ = (0 : Nat) from wf.2.2.2.2.2.2.2.2.2.2.2.2.2.1 0), wpa, (show ∀ n : Nat, _ = n from fun n => wfa.2.2.2.2.2.2.2.2.2.2.2.2.2.1 (Int.ofNat n)), (show _ = (0 : Nat) from wfa.2.2.2.2.2.2.2.2.2.2.2.2.2.1 0), getL, takeL, dropL, TK.isAgg, reduceIte])
        refine hBk (i + 1) _ (by omega) ⟨by omega, fun k hk => ?_⟩ ?_
        · by_cases e2 : k = i
          · subst e2; exact c9.symm
          · exact i2 k (by omega)
        · ((cbv; try simp only [wf, wfa, exD, exL, exT, exB, exA, leLs, leL_d, leL_undef, leL_nils, leA_nils, deq_refl, deq_int, deq_bool, deq_str, and_true, true_and, AObj.iter.injEq, nc, nc']; try simp (disch := omega) only [w64, w32, wu8]); first | done | rfl | omega | (simp; done) | (simp; omega) | skip)
    · obtain rfl : i = n := (by (try simp only [wf, wfa, nc, nc', Int.toNat_natCast, bsz, ByteArray.size_append, List.length_cons, List.length_nil] at *); (try simp (disch := omega) only [w64, w32, wu8] at *); first | done | omega)
      (refine Later.mk ?_; cbv; try simp only [wp, (show ∀ n : Nat, _ = n from fun n => wf.2.2.2.2.2.2.2.2.2.2.2.2.2.1 (Int.ofNat n)), (show _ = (0 : Nat) from wf.2.2.2.2.2.2.2.2.2.2.2.2.2.1 0), wpa, (show ∀ n : Nat, _ = n from fun n => wfa.2.2.2.2.2.2.2.2.2.2.2.2.2.1 (Int.ofNat n)), (show _ = (0 : Nat) from wfa.2.2.2.2.2.2.2.2.2.2.2.2.2.1 0), getL, takeL, dropL, TK.isAgg, reduceIte])
      exact hR _ _ (iffT ⟨rfl, i2⟩)
end Go.VM
