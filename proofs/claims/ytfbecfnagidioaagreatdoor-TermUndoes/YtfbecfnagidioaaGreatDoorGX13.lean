/- Part of the proof: MT3, MT4, TT14, TT16, TT17, TT0, TT15. -/
import Derived.Test.YtfbecfnagidioaaGreatDoorGX7
import Derived.Test.YtfbecfnagidioaaGreatDoorGX12
import Derived.Test.YtfbecfnagidioaaGreatDoorGV5
import Derived.Test.YtfbecfnagidioaaGreatDoorGV6
import Derived.Test.YtfbecfnagidioaaGreatDoorGX10
/- Terms mapped: shifted, filled, copied, their free variables. -/
namespace Go.VM
open Go
set_option linter.unusedVariables false
set_option linter.unusedSimpArgs false
/-- how many variables a part binds -/
def bindI (op : Int) (m : Nat) (i : Int) : Int := if i < 0 ∨ (m : Int) ≤ i then 0 else if (op = 5 ∨ op = 6 ∨ op = 8 ∨ op = 9 ∨ op = 20) ∧ i = 1 then 1 else if op = 23 ∧ i = 1 then 2 else if op = 25 ∧ (i = 1 ∨ i = 2) then 1 else if op = 28 ∧ i = 0 then 2 else if op = 28 ∧ i < (m : Int) - 2 then 3 else 0
theorem bindI_le (op : Int) (m : Nat) (i : Int) : 0 ≤ bindI op m i ∧ bindI op m i ≤ 3 := by
  unfold bindI
  repeat' split
  all_goals omega
theorem bindI_0 (m : Nat) (i : Int) : bindI 1 m i = 0 := by
  unfold bindI
  repeat' split
  all_goals omega
/-- a variable whose number counts -/
def IsV (op n : Int) : Prop := op = 1 ∧ 0 ≤ n ∧ n ≤ 2147483648
instance (op n : Int) : Decidable (IsV op n) := inferInstanceAs (Decidable (_ ∧ _))
/-- a term, each variable in it replaced, from the leaves on -/
def mapT (f : Tm → Int → Tm) : Tm → Int → Tm
  | .mk op n s k C N W Q m ok L, d =>
    if IsV op n then f (.mk op n s k C N W Q m ok fun i => mapT f (L i) (d + bindI op m i.1)) d else .mk op n s k C N W Q m ok fun i => mapT f (L i) (d + bindI op m i.1)
def foldF {Y : Type} (g : Nat → Y → Y) : Nat → Y → Y
  | 0, y => y
  | n + 1, y => g n (foldF g n y)
theorem foldF_congr {Y : Type} {g h : Nat → Y → Y} : ∀ {n : Nat} {y : Y}, (∀ i z, i < n → g i z = h i z) → foldF g n y = foldF h n y
  | 0, _, _ => rfl
  | n + 1, y, e => by simp only [foldF]; rw [foldF_congr fun i z hi => e i z (by omega), e n _ (by omega)]
/-- what is noted on the way -/
def runT {Y : Type} (f : Int → Int → Y → Y) : Tm → Int → Y → Y
  | .mk op n s k C N W Q m ok L, d, y =>
    if IsV op n then f n d (foldF (fun i z => if h : i < m then runT f (L ⟨i, h⟩) (d + bindI op m i) z else z) m y) else foldF (fun i z => if h : i < m then runT f (L ⟨i, h⟩) (d + bindI op m i) z else z) m y
section
variable {op n : Int} {s : ByteArray} {k : Nat} {C : Nat → Int} {N : Nat → Nat} {W Q : Nat → Nat → Int} {m : Nat} {ok : TmOk op n s k N m} {K : Nat → Tm}
theorem mapT_nd (f : Tm → Int → Tm) (d : Int) : mapT f (.nd op n s k C N W Q m ok K) d =
    if IsV op n then f (.nd op n s k C N W Q m ok fun i => mapT f (K i) (d + bindI op m i)) d else .nd op n s k C N W Q m ok fun i => mapT f (K i) (d + bindI op m i) := by
  simp only [Tm.nd, mapT]
theorem runT_nd {Y : Type} (f : Int → Int → Y → Y) (d : Int) (y : Y) : runT f (.nd op n s k C N W Q m ok K) d y =
    if IsV op n then f n d (foldF (fun i z => runT f (K i) (d + bindI op m i) z) m y) else foldF (fun i z => runT f (K i) (d + bindI op m i) z) m y := by
  have e : ∀ y, foldF (fun i z => if h : i < m then runT f (K i) (d + bindI op m i) z else z) m y = foldF (fun i z => runT f (K i) (d + bindI op m i) z) m y := fun y => foldF_congr fun i z hi => dif_pos hi
  simp only [Tm.nd, runT, e]
/-- two terms whose parts are the same -/
theorem nd_congr {K' : Nat → Tm} (h : ∀ i, i < m → K i = K' i) : Tm.nd op n s k C N W Q m ok K = .nd op n s k C N W Q m ok K' := by
  unfold Tm.nd
  exact congrArg _ (funext fun i => h i i.2)
theorem tm_nd (G : Nat → Nat → D) : tm (.nd op n s k C N W Q m ok K) = .agg [.d (.int .i64 op), .d (.int .i64 n), .d (.str s), .d (.sl k 2 (lsF C N W Q)), .d (.sl m 5 (fun i j => if i < m then tmD (K i) j else .nilp))] := by
  unfold tm
  obtain ⟨h0, h1, h2, h3, h4⟩ := tmD_nd op n s k C N W Q m ok K
  rw [h0, h1, h2, h3, h4]
  simp only [dite_eq_ite]
end
/-- a whole number, as it is in the machine -/
def clampI (x : Int) : Int := if -9223372036854775808 ≤ x ∧ x ≤ 9223372036854775807 then x else 0
theorem clampI_ok (x : Int) : -9223372036854775808 ≤ clampI x ∧ clampI x ≤ 9223372036854775807 := by unfold clampI; split <;> omega
theorem clampI_eq {x : Int} (h : -9223372036854775808 ≤ x ∧ x ≤ 9223372036854775807) : clampI x = x := if_pos h
/-- another number -/
def setN (n' : Int) : Tm → Tm
  | .mk op n s k C N W Q m ok L => .mk op (clampI n') s k C N W Q m ⟨ok.op, clampI_ok n', ok.s, ok.k, ok.N, ok.m⟩ L
def numT : Tm → Int
  | .mk op n s k C N W Q m ok L => n
/-- a variable shifted -/
def fSh (by' frm : Int) (x : Tm) (d : Int) : Tm := if frm ≤ numT x - d then setN (numT x + by') x else x
def stSh (by' frm : Int) (n d : Int) (y : Bool) : Bool := if frm ≤ n - d then y && decide (frm ≤ n + by' - d) else y
def stFr (n d : Int) (y : Int) : Int := max y (n - d + 1)
/-- all variables stay from the first one on -/
def OkT (by' frm : Int) : Tm → Int → Prop
  | .mk op n s k C N W Q m ok L, d => (IsV op n → frm ≤ n - d → frm ≤ n + by' - d) ∧ ∀ i : Fin m, OkT by' frm (L i) (d + bindI op m i.1)
/-- how far the free variables reach -/
def freeT : Tm → Int → Int
  | .mk op n s k C N W Q m ok L, d => foldF (fun i z => if h : i < m then max z (freeT (L ⟨i, h⟩) (d + bindI op m i)) else z) m (if IsV op n then max 0 (n - d + 1) else 0)
section
variable {op n : Int} {s : ByteArray} {k : Nat} {C : Nat → Int} {N : Nat → Nat} {W Q : Nat → Nat → Int} {m : Nat} {ok : TmOk op n s k N m} {K : Nat → Tm}
theorem OkT_nd (by' frm d : Int) : OkT by' frm (.nd op n s k C N W Q m ok K) d ↔ (IsV op n → frm ≤ n - d → frm ≤ n + by' - d) ∧ ∀ i : Nat, i < m → OkT by' frm (K i) (d + bindI op m i) := by
  have e : OkT by' frm (.nd op n s k C N W Q m ok K) d ↔ (IsV op n → frm ≤ n - d → frm ≤ n + by' - d) ∧ ∀ i : Fin m, OkT by' frm (K i) (d + bindI op m i.1) := by simp only [Tm.nd, OkT]
  rw [e]
  exact and_congr Iff.rfl ⟨fun h i hi => h ⟨i, hi⟩, fun h i => h i i.2⟩
theorem freeT_nd (d : Int) : freeT (.nd op n s k C N W Q m ok K) d = foldF (fun i z => max z (freeT (K i) (d + bindI op m i))) m (if IsV op n then max 0 (n - d + 1) else 0) := by
  have e : ∀ y, foldF (fun i z => if h : i < m then max z (freeT (K i) (d + bindI op m i)) else z) m y = foldF (fun i z => max z (freeT (K i) (d + bindI op m i))) m y := fun y => foldF_congr fun i z hi => dif_pos hi
  simp only [Tm.nd, freeT, e]
end
theorem foldF_and {P : Nat → Prop} {g : Nat → Bool → Bool} (y : Bool) : ∀ {n : Nat}, (∀ i z, i < n → (g i z = true ↔ z = true ∧ P i)) → (foldF g n y = true ↔ y = true ∧ ∀ i, i < n → P i)
  | 0, _ => ⟨fun h => ⟨h, fun i hi => absurd hi (Nat.not_lt_zero _)⟩, fun h => h.1⟩
  | n + 1, e => by
    simp only [foldF]
    rw [e n _ (by omega), foldF_and y fun i z hi => e i z (by omega)]
    constructor
    · rintro ⟨⟨h1, h2⟩, h3⟩
      refine ⟨h1, fun i hi => ?_⟩
      by_cases e2 : i = n
      · subst e2; exact h3
      · exact h2 i (by omega)
    · rintro ⟨h1, h2⟩
      exact ⟨⟨h1, fun i hi => h2 i (by omega)⟩, h2 n (by omega)⟩
theorem runT_sh (by' frm : Int) (t : Tm) : ∀ d y, (runT (stSh by' frm) t d y = true ↔ y = true ∧ OkT by' frm t d) := by
  refine Tm.walk (P := fun t => ∀ d y, (runT (stSh by' frm) t d y = true ↔ y = true ∧ OkT by' frm t d)) ?_ t
  intro op n s k C N W Q m ok K G _ _ ih d y
  rw [runT_nd, OkT_nd]
  have hf := foldF_and (P := fun i => OkT by' frm (K i) (d + bindI op m i)) (g := fun i z => runT (stSh by' frm) (K i) (d + bindI op m i) z) y (n := m) fun i z hi => ih i hi _ z
  split
  · rename_i hv
    show (if frm ≤ n - d then foldF (fun i z => runT (stSh by' frm) (K i) (d + bindI op m i) z) m y && decide (frm ≤ n + by' - d) else foldF (fun i z => runT (stSh by' frm) (K i) (d + bindI op m i) z) m y) = true ↔ _
    split
    · rename_i h
      rw [Bool.and_eq_true, hf, decide_eq_true_iff]
      constructor
      · rintro ⟨⟨h1, h2⟩, h3⟩; exact ⟨h1, fun _ _ => h3, h2⟩
      · rintro ⟨h1, h2, h3⟩; exact ⟨⟨h1, h3⟩, h2 hv h⟩
    · rename_i h
      rw [hf]
      constructor
      · rintro ⟨h1, h2⟩; exact ⟨h1, fun _ h3 => absurd h3 h, h2⟩
      · rintro ⟨h1, _, h3⟩; exact ⟨h1, h3⟩
  · rename_i hv
    rw [hf]
    constructor
    · rintro ⟨h1, h2⟩; exact ⟨h1, fun h3 => absurd h3 hv, h2⟩
    · rintro ⟨h1, _, h3⟩; exact ⟨h1, h3⟩
theorem foldF_max {a : Nat → Int} (x y : Int) : ∀ n, foldF (fun i z => max z (a i)) n (max x y) = max x (foldF (fun i z => max z (a i)) n y)
  | 0 => rfl
  | n + 1 => by simp only [foldF]; rw [foldF_max]; omega
theorem foldF_ge {a : Nat → Int} (y : Int) : ∀ n, y ≤ foldF (fun i z => max z (a i)) n y
  | 0 => Int.le_refl _
  | n + 1 => by have := foldF_ge (a := a) y n; simp only [foldF]; omega
theorem freeT_ge (t : Tm) (d : Int) : 0 ≤ freeT t d := by
  refine Tm.walk (P := fun t => ∀ d, 0 ≤ freeT t d) ?_ t d
  intro op n s k C N W Q m ok K G _ _ _ d
  rw [freeT_nd]
  have := foldF_ge (a := fun i => freeT (K i) (d + bindI op m i)) (if IsV op n then max 0 (n - d + 1) else 0) m
  have h0 : (0 : Int) ≤ if IsV op n then max 0 (n - d + 1) else 0 := by split <;> omega
  omega
theorem runT_fr (t : Tm) : ∀ d y, 0 ≤ y → runT stFr t d y = max y (freeT t d) := by
  refine Tm.walk (P := fun t => ∀ d y, 0 ≤ y → runT stFr t d y = max y (freeT t d)) ?_ t
  intro op n s k C N W Q m ok K G _ _ ih d y hy
  rw [runT_nd, freeT_nd]
  have hf : ∀ j, j ≤ m → foldF (fun i z => runT stFr (K i) (d + bindI op m i) z) j y = foldF (fun i z => max z (freeT (K i) (d + bindI op m i))) j y := by
    intro j
    induction j with
    | zero => intro _; rfl
    | succ j ihj =>
      intro hj
      simp only [foldF]
      rw [ihj (by omega)]
      have h := foldF_ge (a := fun i => freeT (K i) (d + bindI op m i)) y j
      exact ih j (by omega) _ _ (by omega)
  rw [hf m (Nat.le_refl _)]
  have h := foldF_ge (a := fun i => freeT (K i) (d + bindI op m i)) y m
  have h2 := foldF_max (a := fun i => freeT (K i) (d + bindI op m i)) y 0 m
  rw [Int.max_eq_left hy] at h2
  have h3 := foldF_ge (a := fun i => freeT (K i) (d + bindI op m i)) 0 m
  split
  · unfold stFr
    have e : max (0 : Int) (n - d + 1) = max (n - d + 1) 0 := Int.max_comm _ _
    rw [e, foldF_max]
    omega
  · rw [h2]
end Go.VM

/- Laws of shifting and filling. -/
namespace Go.VM
open Go
set_option linter.unusedVariables false
set_option linter.unusedSimpArgs false
section
variable {op n n1 n2 : Int} {s : ByteArray} {k : Nat} {C : Nat → Int} {N : Nat → Nat} {W Q : Nat → Nat → Int} {m : Nat} {ok : TmOk op n s k N m} {K : Nat → Tm}
theorem nd_num (h : n1 = n2) {ok1 : TmOk op n1 s k N m} {ok2 : TmOk op n2 s k N m} {K' : Nat → Tm} (hK : ∀ i, i < m → K i = K' i) : Tm.nd op n1 s k C N W Q m ok1 K = .nd op n2 s k C N W Q m ok2 K' := by
  subst h
  exact nd_congr hK
/-- the number of a node, shifted -/
def shN (a frm op n d : Int) : Int := if IsV op n ∧ frm ≤ n - d then clampI (n + a) else n
theorem shN_ok (a frm d : Int) (ok : TmOk op n s k N m) : TmOk op (shN a frm op n d) s k N m := ⟨ok.op, by unfold shN; split; exact clampI_ok _; exact ok.n, ok.s, ok.k, ok.N, ok.m⟩
theorem setN_nd (x : Int) : setN x (.nd op n s k C N W Q m ok K) = .nd op (clampI x) s k C N W Q m ⟨ok.op, clampI_ok x, ok.s, ok.k, ok.N, ok.m⟩ K := rfl
theorem numT_nd : numT (.nd op n s k C N W Q m ok K) = n := rfl
theorem sh_nd (a frm d : Int) : mapT (fSh a frm) (.nd op n s k C N W Q m ok K) d = .nd op (shN a frm op n d) s k C N W Q m (shN_ok a frm d ok) fun i => mapT (fSh a frm) (K i) (d + bindI op m i) := by
  rw [mapT_nd]
  unfold fSh
  rw [numT_nd]
  split
  · rename_i hv
    split
    · rename_i h
      rw [setN_nd]
      exact nd_num (by unfold shN; rw [if_pos ⟨hv, h⟩]) fun i hi => rfl
    · rename_i h
      exact nd_num (by unfold shN; rw [if_neg fun x => h x.2]) fun i hi => rfl
  · rename_i hv
    exact nd_num (by unfold shN; rw [if_neg fun x => hv x.1]) fun i hi => rfl
end
theorem nodesT_sh (a frm : Int) (t : Tm) : ∀ d, nodesT (mapT (fSh a frm) t d) = nodesT t := by
  refine Tm.walk (P := fun t => ∀ d, nodesT (mapT (fSh a frm) t d) = nodesT t) ?_ t
  intro op n s k C N W Q m ok K G _ _ ih d
  rw [sh_nd, nodesT_nd, nodesT_nd, sumF_congr (f := fun i => nodesT (mapT (fSh a frm) (K i) (d + bindI op m i))) (g := fun i => nodesT (K i)) fun i hi => ih i hi _]
/-- all variables are at most that number -/
def NearT (b : Int) : Tm → Prop
  | .mk op n s k C N W Q m ok L => (op = 1 → n ≤ b) ∧ ∀ i : Fin m, NearT b (L i)
section
variable {op n n1 n2 : Int} {s : ByteArray} {k : Nat} {C : Nat → Int} {N : Nat → Nat} {W Q : Nat → Nat → Int} {m : Nat} {ok : TmOk op n s k N m} {K : Nat → Tm}
theorem NearT_nd (b : Int) : NearT b (.nd op n s k C N W Q m ok K) ↔ (op = 1 → n ≤ b) ∧ ∀ i : Nat, i < m → NearT b (K i) := by
  have e : NearT b (.nd op n s k C N W Q m ok K) ↔ (op = 1 → n ≤ b) ∧ ∀ i : Fin m, NearT b (K i) := by simp only [Tm.nd, NearT]
  rw [e]
  exact and_congr Iff.rfl ⟨fun h i hi => h ⟨i, hi⟩, fun h i => h i i.2⟩
end
theorem sh_zero (frm : Int) (t : Tm) : ∀ d, mapT (fSh 0 frm) t d = t := by
  refine Tm.walk (P := fun t => ∀ d, mapT (fSh 0 frm) t d = t) ?_ t
  intro op n s k C N W Q m ok K G _ _ ih d
  rw [sh_nd]
  refine nd_num ?_ fun i hi => ih i hi _
  unfold shN
  split
  · rw [Int.add_zero, clampI_eq ok.n]
  · rfl
theorem OkT_up {a : Int} (ha : 0 ≤ a) (frm : Int) (t : Tm) : ∀ d, OkT a frm t d := by
  refine Tm.walk (P := fun t => ∀ d, OkT a frm t d) ?_ t
  intro op n s k C N W Q m ok K G _ _ ih d
  rw [OkT_nd]
  exact ⟨fun _ _ => by omega, fun i hi => ih i hi _⟩
/-- shifted, and shifted once more, from where the first ones came to stand -/
theorem sh_sh {a b c e : Int} (ha : 0 ≤ a ∧ a ≤ 2000000) (hb : -a ≤ b ∧ b ≤ 2000000) (hc : 0 ≤ c) (he : 0 ≤ e ∧ e ≤ a) {f : Int} (hf : 0 ≤ f) (t : Tm) : NearT 2000000 t → ∀ d, 0 ≤ d → mapT (fSh b f) (mapT (fSh a f) t d) (d + e) = mapT (fSh (a + b) f) t d := by
  refine Tm.walk (P := fun t => NearT 2000000 t → ∀ d, 0 ≤ d → mapT (fSh b f) (mapT (fSh a f) t d) (d + e) = mapT (fSh (a + b) f) t d) ?_ t
  intro op n s k C N W Q m ok K G _ _ ih hn d hd
  rw [NearT_nd] at hn
  rw [sh_nd, sh_nd, sh_nd]
  refine nd_num ?_ fun i hi => ?_
  · have hok := ok.n
    have h1 := hn.1
    by_cases hv : IsV op n ∧ f ≤ n - d
    · have hv2 := hv
      obtain ⟨⟨v1, v2, v3⟩, v4⟩ := hv
      have h1 := h1 v1
      have e1 : shN a f op n d = n + a := by unfold shN; rw [if_pos hv2, clampI_eq (by omega)]
      have e2 : shN (a + b) f op n d = n + (a + b) := by unfold shN; rw [if_pos hv2, clampI_eq (by omega)]
      rw [e1, e2]
      unfold shN
      rw [if_pos ⟨⟨v1, by omega, by omega⟩, by omega⟩, clampI_eq (by omega)]
      omega
    · have e1 : shN a f op n d = n := by unfold shN; rw [if_neg hv]
      have e2 : shN (a + b) f op n d = n := by unfold shN; rw [if_neg hv]
      rw [e1, e2]
      unfold shN
      rw [if_neg fun x => hv ⟨x.1, by have := x.2; omega⟩]
  · have := bindI_le op m i
    have h := ih i hi (hn.2 i hi) (d + bindI op m i) (by omega)
    rw [show d + e + bindI op m i = d + bindI op m i + e by omega]
    exact h
theorem OkT_back {a b : Int} (ha : 0 ≤ a ∧ a ≤ 2000000) (hb : -a ≤ b) {f : Int} (hf : 0 ≤ f) (t : Tm) : NearT 2000000 t → ∀ d, 0 ≤ d → OkT b f (mapT (fSh a f) t d) d := by
  refine Tm.walk (P := fun t => NearT 2000000 t → ∀ d, 0 ≤ d → OkT b f (mapT (fSh a f) t d) d) ?_ t
  intro op n s k C N W Q m ok K G _ _ ih hn d hd
  rw [NearT_nd] at hn
  rw [sh_nd, OkT_nd]
  refine ⟨?_, fun i hi => ?_⟩
  · have h1 := hn.1
    unfold shN
    split
    · rename_i h
      obtain ⟨⟨v1, v2, v3⟩, v4⟩ := h
      have h1 := h1 v1
      rw [clampI_eq (by omega)]
      intro _ _
      omega
    · rename_i h
      intro h2 h3
      exact absurd ⟨h2, h3⟩ h
  · have := bindI_le op m i
    exact ih i hi (hn.2 i hi) _ (by omega)
/-- a variable, filled -/
def fFl (len : Nat) (B : Nat → Tm) (x : Tm) (d : Int) : Tm := if numT x - d < 0 then x else if numT x - d < len then mapT (fSh d 0) (B (numT x - d).toNat) 0 else setN (numT x - len) x
section
variable {op n n1 n2 : Int} {s : ByteArray} {k : Nat} {C : Nat → Int} {N : Nat → Nat} {W Q : Nat → Nat → Int} {m : Nat} {ok : TmOk op n s k N m} {K : Nat → Tm}
theorem fl_out (len : Nat) (B : Nat → Tm) (d : Int) (h : IsV op n → n - d < 0) : mapT (fFl len B) (.nd op n s k C N W Q m ok K) d = .nd op n s k C N W Q m ok fun i => mapT (fFl len B) (K i) (d + bindI op m i) := by
  rw [mapT_nd]
  split
  · rename_i hv
    unfold fFl
    rw [numT_nd, if_pos (h hv)]
  · rfl
theorem fl_in (len : Nat) (B : Nat → Tm) (d : Int) (hv : IsV op n) (h0 : 0 ≤ n - d) (h : n - d < len) : mapT (fFl len B) (.nd op n s k C N W Q m ok K) d = mapT (fSh d 0) (B (n - d).toNat) 0 := by
  rw [mapT_nd, if_pos hv]
  unfold fFl
  rw [numT_nd, if_neg (by omega), if_pos h]
theorem fl_over (len : Nat) (B : Nat → Tm) (d : Int) (hv : IsV op n) (h : len ≤ n - d) (ok' : TmOk op (n - len) s k N m) : mapT (fFl len B) (.nd op n s k C N W Q m ok K) d = .nd op (n - len) s k C N W Q m ok' fun i => mapT (fFl len B) (K i) (d + bindI op m i) := by
  rw [mapT_nd, if_pos hv]
  unfold fFl
  rw [numT_nd, if_neg (by omega), if_neg (by omega), setN_nd]
  exact nd_num (clampI_eq ok'.n) fun i hi => rfl
end
/-- filled is shifted back -/
theorem fl_sh (len : Nat) (hl : len ≤ 2000000) (B : Nat → Tm) (t : Tm) : NearT 2000000 t → ∀ d, 0 ≤ d → mapT (fFl len B) (mapT (fSh len 0) t d) d = t := by
  refine Tm.walk (P := fun t => NearT 2000000 t → ∀ d, 0 ≤ d → mapT (fFl len B) (mapT (fSh len 0) t d) d = t) ?_ t
  intro op n s k C N W Q m ok K G _ _ ih hn d hd
  rw [NearT_nd] at hn
  have hk : ∀ i, i < m → mapT (fFl len B) (mapT (fSh len 0) (K i) (d + bindI op m i)) (d + bindI op m i) = K i := fun i hi => ih i hi (hn.2 i hi) _ (by have := bindI_le op m i; omega)
  have h1 := hn.1
  have hok := ok.n
  rw [sh_nd]
  by_cases hv : IsV op n ∧ 0 ≤ n - d
  · obtain ⟨⟨v1, v2, v3⟩, v4⟩ := hv
    have h1 := h1 v1
    have e : shN len 0 op n d = n + len := by unfold shN; rw [if_pos ⟨⟨v1, v2, v3⟩, v4⟩, clampI_eq (by omega)]
    rw [fl_over len B d (by rw [e]; exact ⟨v1, by omega, by omega⟩) (by rw [e]; omega) ⟨ok.op, by rw [e]; omega, ok.s, ok.k, ok.N, ok.m⟩]
    exact nd_num (by rw [e]; omega) hk
  · have e : shN len 0 op n d = n := by unfold shN; rw [if_neg hv]
    rw [fl_out len B d (by rw [e]; intro x; exact Int.not_le.1 fun h => hv ⟨x, h⟩)]
    exact nd_num e hk
theorem NearT.sh {b a : Int} (ha : 0 ≤ a) (frm : Int) (t : Tm) (hb : 0 ≤ b ∧ b + a ≤ 1000000000) : NearT b t → ∀ d, NearT (b + a) (mapT (fSh a frm) t d) := by
  refine Tm.walk (P := fun t => NearT b t → ∀ d, NearT (b + a) (mapT (fSh a frm) t d)) ?_ t
  intro op n s k C N W Q m ok K G _ _ ih hn d
  rw [NearT_nd] at hn
  rw [sh_nd, NearT_nd]
  refine ⟨fun h0 => ?_, fun i hi => ih i hi (hn.2 i hi) _⟩
  have h1 := hn.1 h0
  have hok := ok.n
  unfold shN
  split
  · rename_i h
    obtain ⟨⟨v1, v2, v3⟩, v4⟩ := h
    rw [clampI_eq (by omega)]; omega
  · omega
theorem NearT.mono {b a : Int} (h : b ≤ a) (t : Tm) : NearT b t → NearT a t := by
  refine Tm.walk (P := fun t => NearT b t → NearT a t) ?_ t
  intro op n s k C N W Q m ok K G _ _ ih hn
  rw [NearT_nd] at hn ⊢
  exact ⟨fun h0 => by have := hn.1 h0; omega, fun i hi => ih i hi (hn.2 i hi)⟩
/-- shifting goes along with filling -/
theorem fl_up (len : Nat) (hl : len ≤ 1000000) (B : Nat → Tm) (hB : ∀ i, i < len → NearT 2000000 (B i)) {a : Int} (ha : 0 ≤ a ∧ a ≤ 100000) (t : Tm) : NearT 2000000 t → ∀ d : Int, 0 ≤ d → d + 4 * nodesT t ≤ 1000000 →
    mapT (fFl len B) (mapT (fSh a 0) t d) (d + a) = mapT (fSh a 0) (mapT (fFl len B) t d) d := by
  refine Tm.walk (P := fun t => NearT 2000000 t → ∀ d : Int, 0 ≤ d → d + 4 * nodesT t ≤ 1000000 → mapT (fFl len B) (mapT (fSh a 0) t d) (d + a) = mapT (fSh a 0) (mapT (fFl len B) t d) d) ?_ t
  intro op n s k C N W Q m ok K G _ _ ih hn d hd hs
  rw [NearT_nd] at hn
  rw [nodesT_nd] at hs
  have hk : ∀ i, i < m → mapT (fFl len B) (mapT (fSh a 0) (K i) (d + bindI op m i)) (d + a + bindI op m i) = mapT (fSh a 0) (mapT (fFl len B) (K i) (d + bindI op m i)) (d + bindI op m i) := fun i hi => by
    have hb := bindI_le op m i
    have h1 := sumF_one (f := fun i => nodesT (K i)) hi
    have := ih i hi (hn.2 i hi) (d + bindI op m i) (by omega) (by omega)
    rw [show d + a + bindI op m i = d + bindI op m i + a by omega]
    exact this
  have h1 := hn.1
  have hok := ok.n
  rw [sh_nd]
  by_cases hv : IsV op n
  · have hv' := hv
    obtain ⟨v1, v2, v3⟩ := hv
    have h1 := h1 v1
    by_cases h0 : 0 ≤ n - d
    · have e : shN a 0 op n d = n + a := by unfold shN; rw [if_pos ⟨hv', h0⟩, clampI_eq (by omega)]
      by_cases hlt : n - d < len
      · rw [fl_in len B (d + a) (by rw [e]; exact ⟨v1, by omega, by omega⟩) (by rw [e]; omega) (by rw [e]; omega), fl_in len B d hv' h0 hlt]
        rw [show shN a 0 op n d - (d + a) = n - d by rw [e]; omega]
        have := sh_sh (a := d) (b := a) (c := 0) (e := d) ⟨hd, by omega⟩ ⟨by omega, by omega⟩ (Int.le_refl _) ⟨hd, Int.le_refl _⟩ (f := 0) (Int.le_refl _) (B (n - d).toNat) (hB _ (by omega)) 0 (Int.le_refl _)
        rw [Int.zero_add] at this
        exact this.symm
      · rw [fl_over len B (d + a) (by rw [e]; exact ⟨v1, by omega, by omega⟩) (by rw [e]; omega) ⟨ok.op, by rw [e]; omega, ok.s, ok.k, ok.N, ok.m⟩, fl_over len B d hv' (by omega) ⟨ok.op, by omega, ok.s, ok.k, ok.N, ok.m⟩, sh_nd]
        refine nd_num ?_ hk
        rw [e]
        unfold shN
        rw [if_pos ⟨⟨v1, by omega, by omega⟩, by omega⟩, clampI_eq (by omega)]
        omega
    · have e : shN a 0 op n d = n := by unfold shN; rw [if_neg fun x => h0 x.2]
      rw [fl_out len B (d + a) (by rw [e]; intro _; omega), fl_out len B d (fun _ => by omega), sh_nd]
      exact nd_num (by rw [e]) hk
  · have e : shN a 0 op n d = n := by unfold shN; rw [if_neg fun x => hv x.1]
    rw [fl_out len B (d + a) (by rw [e]; exact fun h => absurd h hv), fl_out len B d (fun h => absurd h hv), sh_nd]
    exact nd_num (by rw [e]) hk
/-- filled twice -/
theorem fl_fl (l m' : Nat) (hl : l ≤ 1000 ∧ m' ≤ 1000) (B M : Nat → Tm) (hB : ∀ i, i < l → NearT 2000000 (B i) ∧ 4 * nodesT (B i) ≤ 10000) (hM : ∀ i, i < m' → NearT 2000000 (M i)) (t : Tm) : NearT 2000000 t → ∀ d : Int, 0 ≤ d → d + 4 * nodesT t ≤ 10000 →
    mapT (fFl m' M) (mapT (fFl l B) t d) d = mapT (fFl (l + m') fun i => if i < l then mapT (fFl m' M) (B i) 0 else M (i - l)) t d := by
  refine Tm.walk (P := fun t => NearT 2000000 t → ∀ d : Int, 0 ≤ d → d + 4 * nodesT t ≤ 10000 → mapT (fFl m' M) (mapT (fFl l B) t d) d = mapT (fFl (l + m') fun i => if i < l then mapT (fFl m' M) (B i) 0 else M (i - l)) t d) ?_ t
  intro op n s k C N W Q m ok K G _ _ ih hn d hd hs
  rw [NearT_nd] at hn
  rw [nodesT_nd] at hs
  have hk := fun i (hi : i < m) => (by
    have hb := bindI_le op m i
    have h1 := sumF_one (f := fun i => nodesT (K i)) hi
    exact ih i hi (hn.2 i hi) (d + bindI op m i) (by omega) (by omega))
  have h1 := hn.1
  have hok := ok.n
  by_cases hv : IsV op n
  · have hv' := hv
    obtain ⟨v1, v2, v3⟩ := hv
    have h1 := h1 v1
    by_cases h0 : 0 ≤ n - d
    · by_cases hlt : n - d < l
      · rw [fl_in l B d hv' h0 hlt, fl_in (l + m') _ d hv' h0 (by omega)]
        rw [if_pos (by omega)]
        have hBi := hB (n - d).toNat (by omega)
        have := fl_up m' (by omega) M hM (a := d) ⟨hd, by omega⟩ (B (n - d).toNat) hBi.1 0 (Int.le_refl _) (by have := hBi.2; omega)
        rw [Int.zero_add] at this
        exact this
      · rw [fl_over l B d hv' (by omega) ⟨ok.op, by omega, ok.s, ok.k, ok.N, ok.m⟩]
        by_cases hlt2 : n - d < l + m'
        · rw [fl_in m' M d ⟨v1, by omega, by omega⟩ (by omega) (by omega), fl_in (l + m') _ d hv' h0 (by omega)]
          rw [if_neg (by omega)]
          rw [show (n - ↑l - d).toNat = (n - d).toNat - l by omega]
        · rw [fl_over m' M d ⟨v1, by omega, by omega⟩ (by omega) ⟨ok.op, by omega, ok.s, ok.k, ok.N, ok.m⟩, fl_over (l + m') _ d hv' (by omega) ⟨ok.op, by omega, ok.s, ok.k, ok.N, ok.m⟩]
          exact nd_num (by omega) hk
    · rw [fl_out l B d (fun _ => by omega), fl_out m' M d (fun _ => by omega), fl_out (l + m') _ d (fun _ => by omega)]
      exact nd_num rfl hk
  · rw [fl_out l B d (fun h => absurd h hv), fl_out m' M d (fun h => absurd h hv), fl_out (l + m') _ d (fun h => absurd h hv)]
    exact nd_num rfl hk
end Go.VM

namespace Go.VM
open Go.Proofs Go
set_option maxRecDepth 100000
set_option linter.unusedVariables false
set_option linter.unusedSimpArgs false
/-- which parts are proofs, of whatever number -/
def PrfI (op n : Int) (m : Nat) (i : Int) : Prop := 0 ≤ i ∧ i < m ∧ ((op = 7 ∧ i = 1 ∧ n = 1) ∨ (op = 9 ∧ ((i = 2 ∧ ¬ bitF .and .i64 n 1 = 0) ∨ (i = 3 ∧ ¬ bitF .and .i64 n 2 = 0))) ∨ ((op = 17 ∨ op = 22) ∧ i = 1) ∨ (op = 21 ∧ i = 2) ∨ (op = 23 ∧ 2 ≤ i ∧ i ≤ 4) ∨ (op = 25 ∧ i = 3) ∨ (op = 20 ∧ (i = 4 ∨ i = 5)))
theorem bindsT (op n : Int) (s : ByteArray) (k : Nat) (C : Nat → Int) (N : Nat → Nat) (W Q : Nat → Nat → Int) (m : Nat) (G : Nat → Nat → D) (i : Int) (hm : m < 2 ^ 62) : VFun (P ()) 75 [tml op n s k C N W Q m G, .d (.int .i64 i)] (fun r => r = .d (.int .i64 (bindI op m i))) := by
  refine vfunL (Tf := fun {_} _ => fzT [2] (T ())) (fun {_} => tabOk.frz [2]) [] 400 Tryz.func75 rfl (fun {_} => by kernel_rfl) rfl (Nat.le_of_ble_eq_true rfl) @fun ⟨_, _, _, _, _, _, _, _, _, _, _, _, _, _, _, _, _, _, _, _, _, _, _, _, _, _, _, _, _, _, _, _, _, _, _, _, _, _, wp, wf⟩ R hR => ?_
  cbv
  try simp only [wp, (show ∀ n : Nat, _ = n from fun n => wf.2.2.2.2.2.2.2.2.2.2.2.2.2.1 (Int.ofNat n)), getL, takeL, dropL, TK.isAgg, reduceIte]
  replace hR := fun x H h => hR (.d (.int .i64 x)) H (.d (.int .i64 x)) (.d _) (congrArg (fun z => A.d (D.int .i64 z)) h)
  unfold bindI at hR
  repeat' first | (with_reducible refine And.intro ?_ ?_) | intro c9 | (refine Later.mk ?_; cbv; try simp only [wp, (show ∀ n : Nat, _ = n from fun n => wf.2.2.2.2.2.2.2.2.2.2.2.2.2.1 (Int.ofNat n)), (show _ = (0 : Nat) from wf.2.2.2.2.2.2.2.2.2.2.2.2.2.1 0), getL, takeL, dropL, TK.isAgg, reduceIte])
  all_goals exact hR _ _ (by clear hR; ((try simp only [wf, nc, nc', Int.toNat_natCast, bsz, ByteArray.size_append, List.length_cons, List.length_nil] at *); (try simp (disch := omega) only [w64, w32, wu8] at *)); repeat' (first | omega | split))
theorem bindsR (op n : Int) (s : ByteArray) (k : Nat) (C : Nat → Int) (N : Nat → Nat) (W Q : Nat → Nat → Int) (m : Nat) (G : Nat → Nat → D) (i : Int) (hm : m < 2 ^ 62) : VFun (P ()) 69 [tml op n s k C N W Q m G, .d (.int .i64 i)] (fun r => r = .d (.int .i64 (bindI op m i))) := by
  refine vfunL (Tf := fun {_} _ => fzT [2] (T ())) (fun {_} => tabOk.frz [2]) [] 400 Tryz.func69 rfl (fun {_} => by kernel_rfl) rfl (Nat.le_of_ble_eq_true rfl) @fun ⟨_, _, _, _, _, _, _, _, _, _, _, _, _, _, _, _, _, _, _, _, _, _, _, _, _, _, _, _, _, _, _, _, _, _, _, _, _, _, wp, wf⟩ R hR => ?_
  cbv
  try simp only [wp, (show ∀ n : Nat, _ = n from fun n => wf.2.2.2.2.2.2.2.2.2.2.2.2.2.1 (Int.ofNat n)), getL, takeL, dropL, TK.isAgg, reduceIte]
  replace hR := fun x H h => hR (.d (.int .i64 x)) H (.d (.int .i64 x)) (.d _) (congrArg (fun z => A.d (D.int .i64 z)) h)
  unfold bindI at hR
  repeat' first | (with_reducible refine And.intro ?_ ?_) | intro c9 | (refine Later.mk ?_; cbv; try simp only [wp, (show ∀ n : Nat, _ = n from fun n => wf.2.2.2.2.2.2.2.2.2.2.2.2.2.1 (Int.ofNat n)), (show _ = (0 : Nat) from wf.2.2.2.2.2.2.2.2.2.2.2.2.2.1 0), getL, takeL, dropL, TK.isAgg, reduceIte])
  all_goals exact hR _ _ (by clear hR; ((try simp only [wf, nc, nc', Int.toNat_natCast, bsz, ByteArray.size_append, List.length_cons, List.length_nil] at *); (try simp (disch := omega) only [w64, w32, wu8] at *)); repeat' (first | omega | split))
end Go.VM

namespace Go.VM
open Go.Proofs Go
set_option maxRecDepth 100000
set_option linter.unusedVariables false
set_option linter.unusedSimpArgs false
theorem cloneV (m : Nat) (g : Nat → Nat → D) (hm : m < 2 ^ 30) : VFun (P ()) 129 [.d (.sl m 2 g)] (fun r => r = .d (.sl m 2 g)) := by
  refine vfunL (Tf := fun {_} _ => fzT [] (T ())) (fun {_} => tabOk.frz []) [] 400 Tryz.func129 rfl (fun {_} => by kernel_rfl) rfl (Nat.le_of_ble_eq_true rfl) @fun ⟨_, _, _, _, _, _, _, _, _, _, _, _, _, _, _, _, _, _, _, _, _, _, _, _, _, _, _, _, _, _, _, _, _, _, _, _, _, _, wp, wf⟩ R hR => ?_
  cbv
  try simp only [wp, (show ∀ n : Nat, _ = n from fun n => wf.2.2.2.2.2.2.2.2.2.2.2.2.2.1 (Int.ofNat n)), getL, takeL, dropL, TK.isAgg, reduceIte]
  repeat' first | (with_reducible refine And.intro ?_ ?_) | intro c9 | trivial | (refine Later.mk ?_; cbv; try simp only [wp, (show ∀ n : Nat, _ = n from fun n => wf.2.2.2.2.2.2.2.2.2.2.2.2.2.1 (Int.ofNat n)), (show _ = (0 : Nat) from wf.2.2.2.2.2.2.2.2.2.2.2.2.2.1 0), getL, takeL, dropL, TK.isAgg, reduceIte])
  · subst c9
    exact hR _ _ _ (.nils _ _) rfl
  all_goals first
    | exact (by (try simp only [wf, nc, nc', Int.toNat_natCast, bsz, ByteArray.size_append, List.length_cons, List.length_nil] at *); (try simp (disch := omega) only [w64, w32, wu8] at *); first | done | omega)
    | (refine hR _ _ _ (.deq _ _ _ (.ref0 _ _ _ _ _ _ rfl rfl) ?_) rfl
       ((try simp only [wf, nc, nc', Int.toNat_natCast, bsz, ByteArray.size_append, List.length_cons, List.length_nil] at *); (try simp (disch := omega) only [w64, w32, wu8] at *))
       rw [Nat.zero_add]
       exact Deq.sl _ _ _ _ fun i j hi hj => .of_eq (by simp [appF]))
theorem cloneL (m : Nat) (g : Nat → Nat → D) (hm : m < 2 ^ 30) : VCalls (P ()) 128 [.d (.sl m 2 g)] [] (fun r H' => (m = 0 ∧ r = .nils ∧ H' = []) ∨ ∃ n' g', n' = m ∧ (∀ i j, i < m → g' i j = g i j) ∧ r = .ref 0 0 n' 2 ∧ H' = [.arr n' 2 g' 0]) := by
  refine VCalls_of_Wl (Tf := fun {_} _ => fzT [] (T ())) (fun {_} => tabOk.frz []) [] 400 Tryz.func128 rfl (fun {_} => by kernel_rfl) (Nat.le_of_ble_eq_true rfl) @fun ⟨_, _, _, _, _, _, _, _, _, _, _, _, _, _, _, _, _, _, _, _, _, _, _, _, _, _, _, _, _, _, _, _, _, _, _, _, _, _, wp, wf⟩ nH R hnH hR => ?_
  subst hnH
  cbv
  try simp only [wp, (show ∀ n : Nat, _ = n from fun n => wf.2.2.2.2.2.2.2.2.2.2.2.2.2.1 (Int.ofNat n)), getL, takeL, dropL, TK.isAgg, reduceIte]
  repeat' first | (with_reducible refine And.intro ?_ ?_) | intro c9 | trivial | (refine Later.mk ?_; cbv; try simp only [wp, (show ∀ n : Nat, _ = n from fun n => wf.2.2.2.2.2.2.2.2.2.2.2.2.2.1 (Int.ofNat n)), (show _ = (0 : Nat) from wf.2.2.2.2.2.2.2.2.2.2.2.2.2.1 0), getL, takeL, dropL, TK.isAgg, reduceIte])
  all_goals first
    | exact (by (try simp only [wf, nc, nc', Int.toNat_natCast, bsz, ByteArray.size_append, List.length_cons, List.length_nil] at *); (try simp (disch := omega) only [w64, w32, wu8] at *); first | done | omega)
    | exact hR _ _ (.inl ⟨(by (try simp only [wf, nc, nc', Int.toNat_natCast, bsz, ByteArray.size_append, List.length_cons, List.length_nil] at *); (try simp (disch := omega) only [w64, w32, wu8] at *); first | done | omega), rfl, rfl⟩)
    | (refine hR _ _ (.inr ⟨_, _, ?_, ?_, rfl, rfl⟩)
       · ((try simp only [wf, nc, nc', Int.toNat_natCast, bsz, ByteArray.size_append, List.length_cons, List.length_nil] at *); (try simp (disch := omega) only [w64, w32, wu8] at *))
         omega
       · intro i j hi
         ((try simp only [wf, nc, nc', Int.toNat_natCast, bsz, ByteArray.size_append, List.length_cons, List.length_nil] at *); (try simp (disch := omega) only [w64, w32, wu8] at *))
         simp [appF])
theorem cloneL' (m : Nat) (g : Nat → Nat → D) (hm : m < 2 ^ 30) {H : AHeap} {R : A → AHeap → Prop} (h0 : m = 0 → R .nils H)
    (hR : ∀ n' g', n' = m → (∀ i j, i < m → g' i j = g i j) → R (.ref H.length 0 n' 2) (H ++ [.arr n' 2 g' 0])) : CallW P 128 [.d (.sl m 2 g)] H R := by
  refine CallW.of (VCalls.fresh2 (ds := [.sl m 2 g]) (cloneL m g hm) H (R := R) ?_) fun _ _ h => h
  rintro r H' (⟨rfl, rfl, rfl⟩ | ⟨n', g', h1, h2, rfl, rfl⟩)
  · exact ⟨.nils, fun i x hx => by simp at hx, trivial, by simpa [ren] using h0 rfl⟩
  · refine ⟨.ref _ _ _ _ (by simp), fun i x hx => ?_, ⟨⟨g', 0, rfl, Nat.le_refl _, Nat.zero_le _, fun i j _ _ => .refl _⟩, trivial⟩, hR n' g' h1 h2⟩
    have hi := (List.getElem?_eq_some_iff.1 hx).1
    obtain rfl : i = 0 := by simpa using hi
    simp at hx
    subst hx
    trivial
theorem copied (k : Nat) (C : Nat → Int) (N : Nat → Nat) (W Q : Nat → Nat → Int) (hk : k < 2 ^ 30) (hN : ∀ i, i < k → N i < 2 ^ 20) : VFun (P ()) 74 [.d (.sl k 2 (lsF C N W Q))] (fun r => r = .d (.sl k 2 (lsF C N W Q))) := by
  refine vfunL (Tf := fun {_} _ => fzT [] (T ())) (fun {_} => tabOk.frz []) [] 400 Tryz.func74 rfl (fun {_} => by kernel_rfl) rfl (Nat.le_of_ble_eq_true rfl) @fun ⟨_, _, _, _, _, _, _, _, _, _, _, _, _, _, _, _, _, _, _, _, _, _, _, _, _, _, _, _, _, _, _, _, _, _, _, _, _, _, wp, wf⟩ R hR => ?_
  cbv
  try simp only [wp, (show ∀ n : Nat, _ = n from fun n => wf.2.2.2.2.2.2.2.2.2.2.2.2.2.1 (Int.ofNat n)), getL, takeL, dropL, TK.isAgg, reduceIte]
  repeat' first | (with_reducible refine And.intro ?_ ?_) | intro c9 | trivial | (refine Later.mk ?_; cbv; try simp only [wp, (show ∀ n : Nat, _ = n from fun n => wf.2.2.2.2.2.2.2.2.2.2.2.2.2.1 (Int.ofNat n)), (show _ = (0 : Nat) from wf.2.2.2.2.2.2.2.2.2.2.2.2.2.1 0), getL, takeL, dropL, TK.isAgg, reduceIte])
  · obtain rfl : k = 0 := (by (try simp only [wf, nc, nc', Int.toNat_natCast, bsz, ByteArray.size_append, List.length_cons, List.length_nil] at *); (try simp (disch := omega) only [w64, w32, wu8] at *); first | done | omega)
    exact hR _ _ _ (.nils _ _) rfl
  have k0 : k ≠ 0 := fun h => c9 (by have := h; exact (by (try simp only [wf, nc, nc', Int.toNat_natCast, bsz, ByteArray.size_append, List.length_cons, List.length_nil] at *); (try simp (disch := omega) only [w64, w32, wu8] at *); first | done | omega))
  refine cloneL' k (lsF C N W Q) hk (fun h => absurd h k0) fun n' g' h1 h2 => ?_
  subst h1
  (cbv; try simp only [wp, (show ∀ n : Nat, _ = n from fun n => wf.2.2.2.2.2.2.2.2.2.2.2.2.2.1 (Int.ofNat n)), (show _ = (0 : Nat) from wf.2.2.2.2.2.2.2.2.2.2.2.2.2.1 0), getL, takeL, dropL, TK.isAgg, reduceIte])
  refine loopL (Tf := fun {_} _ => fzT [] (T ())) (fun {_} => tabOk.frz []) [] 400 (fun i : Nat => ⟨[.undef, .undef, .undef, .ref 0 0 n' 2, .undef, .undef, .undef, .undef, .undef, .undef, .undef, .d (.int .i64 n'), .d (.int .i64 i), .undef, .undef, .undef, .undef, .undef, .undef, .undef, .undef, .undef, .undef, .undef, .undef, .undef, .undef], [.arr n' 2 (lsF C N W Q) 0]⟩) (fun i => n' - i) (fun i => i ≤ n') 0 (Nat.zero_le _) (fun {_} => by kernel_rfl) ?_ (fun i => by kernel_rfl) @fun ⟨_, _, _, _, _, _, _, _, _, _, _, _, _, _, _, _, _, _, _, _, _, _, _, _, _, _, _, _, _, _, _, _, _, _, _, _, _, _, wpa, wfa⟩ i Bk hi hBk => ?_
  · (cbv; try simp only [wf, exD, exL, exT, exB, exA, leLs, leL_d, leL_undef, leL_nils, leA_nils, deq_refl, deq_int, deq_bool, deq_str, and_true, true_and, AObj.iter.injEq, nc, nc']; try simp (disch := omega) only [w64, w32, wu8])
    exact ⟨rfl, Nat.le_refl _, Nat.zero_le _, fun i j hi _ => .of_eq (h2 i j hi)⟩
  (cbv; try simp only [wp, (show ∀ n : Nat, _ = n from fun n => wf.2.2.2.2.2.2.2.2.2.2.2.2.2.1 (Int.ofNat n)), (show _ = (0 : Nat) from wf.2.2.2.2.2.2.2.2.2.2.2.2.2.1 0), wpa, (show ∀ n : Nat, _ = n from fun n => wfa.2.2.2.2.2.2.2.2.2.2.2.2.2.1 (Int.ofNat n)), (show _ = (0 : Nat) from wfa.2.2.2.2.2.2.2.2.2.2.2.2.2.1 0), getL, takeL, dropL, TK.isAgg, reduceIte])
  refine ⟨fun e => ?_, fun e => ?_⟩
  · have e : i < n' := (by (try simp only [wf, wfa, nc, nc', Int.toNat_natCast, bsz, ByteArray.size_append, List.length_cons, List.length_nil] at *); (try simp (disch := omega) only [w64, w32, wu8] at *); first | done | omega)
    have hc := cloneV (N i) (lvF (W i) (Q i)) (by have := hN i e; omega)
    (refine Later.mk ?_; cbv; try simp only [wp, (show ∀ n : Nat, _ = n from fun n => wf.2.2.2.2.2.2.2.2.2.2.2.2.2.1 (Int.ofNat n)), (show _ = (0 : Nat) from wf.2.2.2.2.2.2.2.2.2.2.2.2.2.1 0), wpa, (show ∀ n : Nat, _ = n from fun n => wfa.2.2.2.2.2.2.2.2.2.2.2.2.2.1 (Int.ofNat n)), (show _ = (0 : Nat) from wfa.2.2.2.2.2.2.2.2.2.2.2.2.2.1 0), getL, takeL, dropL, TK.isAgg, reduceIte])
    repeat' first | (with_reducible refine And.intro ?_ ?_) | intro c9 | trivial | (refine Later.mk ?_; cbv; try simp only [wp, (show ∀ n : Nat, _ = n from fun n => wf.2.2.2.2.2.2.2.2.2.2.2.2.2.1 (Int.ofNat n)), (show _ = (0 : Nat) from wf.2.2.2.2.2.2.2.2.2.2.2.2.2.1 0), wpa, (show ∀ n : Nat, _ = n from fun n => wfa.2.2.2.2.2.2.2.2.2.2.2.2.2.1 (Int.ofNat n)), (show _ = (0 : Nat) from wfa.2.2.2.2.2.2.2.2.2.2.2.2.2.1 0), getL, takeL, dropL, TK.isAgg, reduceIte])
    all_goals first | exact (by (try simp only [wf, wfa, nc, nc', Int.toNat_natCast, bsz, ByteArray.size_append, List.length_cons, List.length_nil] at *); (try simp (disch := omega) only [w64, w32, wu8] at *); first | done | omega) | skip
    refine hc.call ?_
    rintro _ rfl
    (cbv; try simp only [wp, (show ∀ n : Nat, _ = n from fun n => wf.2.2.2.2.2.2.2.2.2.2.2.2.2.1 (Int.ofNat n)), (show _ = (0 : Nat) from wf.2.2.2.2.2.2.2.2.2.2.2.2.2.1 0), wpa, (show ∀ n : Nat, _ = n from fun n => wfa.2.2.2.2.2.2.2.2.2.2.2.2.2.1 (Int.ofNat n)), (show _ = (0 : Nat) from wfa.2.2.2.2.2.2.2.2.2.2.2.2.2.1 0), getL, takeL, dropL, TK.isAgg, reduceIte])
    repeat' first | (with_reducible refine And.intro ?_ ?_) | intro c9 | trivial | (refine Later.mk ?_; cbv; try simp only [wp, (show ∀ n : Nat, _ = n from fun n => wf.2.2.2.2.2.2.2.2.2.2.2.2.2.1 (Int.ofNat n)), (show _ = (0 : Nat) from wf.2.2.2.2.2.2.2.2.2.2.2.2.2.1 0), wpa, (show ∀ n : Nat, _ = n from fun n => wfa.2.2.2.2.2.2.2.2.2.2.2.2.2.1 (Int.ofNat n)), (show _ = (0 : Nat) from wfa.2.2.2.2.2.2.2.2.2.2.2.2.2.1 0), getL, takeL, dropL, TK.isAgg, reduceIte])
    all_goals first
      | exact (by (try simp only [wf, wfa, nc, nc', Int.toNat_natCast, bsz, ByteArray.size_append, List.length_cons, List.length_nil] at *); (try simp (disch := omega) only [w64, w32, wu8] at *); first | done | omega)
      | (refine hBk (i + 1) _ (by omega) (by omega) ?_
         (cbv; try simp only [wf, wfa, exD, exL, exT, exB, exA, leLs, leL_d, leL_undef, leL_nils, leA_nils, deq_refl, deq_int, deq_bool, deq_str, and_true, true_and, AObj.iter.injEq, nc, nc']; try simp (disch := omega) only [w64, w32, wu8])
         ((try simp only [wf, wfa, nc, nc', Int.toNat_natCast, bsz, ByteArray.size_append, List.length_cons, List.length_nil] at *); (try simp (disch := omega) only [w64, w32, wu8] at *))
         refine ⟨by omega, Nat.le_refl _, Nat.zero_le _, fun x j hx hj => ?_⟩
         unfold updF
         split
         · rename_i h
           obtain ⟨rfl, rfl⟩ := h
           exact .of_eq rfl
         · exact .refl _)
  · obtain rfl : i = n' := (by (try simp only [wf, wfa, nc, nc', Int.toNat_natCast, bsz, ByteArray.size_append, List.length_cons, List.length_nil] at *); (try simp (disch := omega) only [w64, w32, wu8] at *); first | done | omega)
    (refine Later.mk ?_; cbv; try simp only [wp, (show ∀ n : Nat, _ = n from fun n => wf.2.2.2.2.2.2.2.2.2.2.2.2.2.1 (Int.ofNat n)), (show _ = (0 : Nat) from wf.2.2.2.2.2.2.2.2.2.2.2.2.2.1 0), wpa, (show ∀ n : Nat, _ = n from fun n => wfa.2.2.2.2.2.2.2.2.2.2.2.2.2.1 (Int.ofNat n)), (show _ = (0 : Nat) from wfa.2.2.2.2.2.2.2.2.2.2.2.2.2.1 0), getL, takeL, dropL, TK.isAgg, reduceIte])
    exact hR _ _ _ (.ref0 0 i 2 i 0 _ rfl rfl) rfl
end Go.VM

namespace Go.VM
open Go.Proofs Go
set_option maxRecDepth 100000
set_option linter.unusedVariables false
set_option linter.unusedSimpArgs false
theorem variableT (op n : Int) (s : ByteArray) (k : Nat) (C : Nat → Int) (N : Nat → Nat) (W Q : Nat → Nat → Int) (m : Nat) (G : Nat → Nat → D) : VFun (P ()) 76 [tml op n s k C N W Q m G] (fun r => ∃ b : Bool, (b = true ↔ IsV op n) ∧ r = .d (.bool b)) := by
  refine vfunL (Tf := fun {_} _ => fzT [1] (T ())) (fun {_} => tabOk.frz [1]) [] 400 Tryz.func76 rfl (fun {_} => by kernel_rfl) rfl (Nat.le_of_ble_eq_true rfl) @fun ⟨_, _, _, _, _, _, _, _, _, _, _, _, _, _, _, _, _, _, _, _, _, _, _, _, _, _, _, _, _, _, _, _, _, _, _, _, _, _, wp, wf⟩ R hR => ?_
  cbv
  try simp only [wp, (show ∀ n : Nat, _ = n from fun n => wf.2.2.2.2.2.2.2.2.2.2.2.2.2.1 (Int.ofNat n)), getL, takeL, dropL, TK.isAgg, reduceIte]
  replace hR := fun b H h => hR _ H (.d (.bool b)) (.d _) ⟨b, h, rfl⟩
  repeat' first | (with_reducible refine And.intro ?_ ?_) | intro c9 | (refine Later.mk ?_; cbv; try simp only [wp, (show ∀ n : Nat, _ = n from fun n => wf.2.2.2.2.2.2.2.2.2.2.2.2.2.1 (Int.ofNat n)), (show _ = (0 : Nat) from wf.2.2.2.2.2.2.2.2.2.2.2.2.2.1 0), getL, takeL, dropL, TK.isAgg, reduceIte])
  all_goals first
    | exact hR true _ (iffT (by clear hR; ((try simp only [wf, nc, nc', Int.toNat_natCast, bsz, ByteArray.size_append, List.length_cons, List.length_nil] at *); (try simp (disch := omega) only [w64, w32, wu8] at *)); unfold IsV; omega))
    | exact hR false _ (iffF (by clear hR; ((try simp only [wf, nc, nc', Int.toNat_natCast, bsz, ByteArray.size_append, List.length_cons, List.length_nil] at *); (try simp (disch := omega) only [w64, w32, wu8] at *)); unfold IsV; omega))
theorem variableR (op n : Int) (s : ByteArray) (k : Nat) (C : Nat → Int) (N : Nat → Nat) (W Q : Nat → Nat → Int) (m : Nat) (G : Nat → Nat → D) : VFun (P ()) 66 [tml op n s k C N W Q m G] (fun r => ∃ b : Bool, (b = true ↔ IsV op n) ∧ r = .d (.bool b)) := by
  refine vfunL (Tf := fun {_} _ => fzT [1] (T ())) (fun {_} => tabOk.frz [1]) [] 400 Tryz.func66 rfl (fun {_} => by kernel_rfl) rfl (Nat.le_of_ble_eq_true rfl) @fun ⟨_, _, _, _, _, _, _, _, _, _, _, _, _, _, _, _, _, _, _, _, _, _, _, _, _, _, _, _, _, _, _, _, _, _, _, _, _, _, wp, wf⟩ R hR => ?_
  cbv
  try simp only [wp, (show ∀ n : Nat, _ = n from fun n => wf.2.2.2.2.2.2.2.2.2.2.2.2.2.1 (Int.ofNat n)), getL, takeL, dropL, TK.isAgg, reduceIte]
  replace hR := fun b H h => hR _ H (.d (.bool b)) (.d _) ⟨b, h, rfl⟩
  repeat' first | (with_reducible refine And.intro ?_ ?_) | intro c9 | (refine Later.mk ?_; cbv; try simp only [wp, (show ∀ n : Nat, _ = n from fun n => wf.2.2.2.2.2.2.2.2.2.2.2.2.2.1 (Int.ofNat n)), (show _ = (0 : Nat) from wf.2.2.2.2.2.2.2.2.2.2.2.2.2.1 0), getL, takeL, dropL, TK.isAgg, reduceIte])
  all_goals first
    | exact hR true _ (iffT (by clear hR; ((try simp only [wf, nc, nc', Int.toNat_natCast, bsz, ByteArray.size_append, List.length_cons, List.length_nil] at *); (try simp (disch := omega) only [w64, w32, wu8] at *)); unfold IsV; omega))
    | exact hR false _ (iffF (by clear hR; ((try simp only [wf, nc, nc', Int.toNat_natCast, bsz, ByteArray.size_append, List.length_cons, List.length_nil] at *); (try simp (disch := omega) only [w64, w32, wu8] at *)); unfold IsV; omega))
/-- the objects that a shift works with -/
abbrev hpSh (frm by' : Int) (y : Bool) : AHeap := [.box [.d (.int .i64 frm)], .box [.d (.int .i64 by')], .box [.d (.bool y)]]
set_option maxHeartbeats 1000000 in
theorem shift1 (frm by' d : Int) (y : Bool) (op n : Int) (s : ByteArray) (k : Nat) (C : Nat → Int) (N : Nat → Nat) (W Q : Nat → Nat → Int) (m : Nat) (G : Nat → Nat → D) (h1 : IsV op n) (h2 : 0 ≤ d ∧ d ≤ 8000000) (h3 : 0 ≤ frm ∧ frm ≤ 2147483648) (h4 : -2147483648 ≤ by' ∧ by' ≤ 2147483648) :
    VCalls (P ()) 44 [tml op n s k C N W Q m G, .d (.int .i64 d), .ptr 0 0, .ptr 1 0, .ptr 2 0] (hpSh frm by' y) (fun r H => ∃ K2, r = tml op (shN by' frm op n d) s k C N W Q m G ∧ H = hpSh frm by' (stSh by' frm n d y) ++ K2) := by
  obtain ⟨v1, v2, v3⟩ := h1
  have e1 : frm ≤ n - d → shN by' frm op n d = n + by' := fun h => by unfold shN; rw [if_pos ⟨⟨v1, v2, v3⟩, h⟩, clampI_eq (by omega)]
  have e2 : n - d < frm → shN by' frm op n d = n := fun h => by unfold shN; rw [if_neg fun h' => by have := h'.2; omega]
  have f1 : ∀ b, frm ≤ n - d → (b = true ↔ y = true ∧ frm ≤ n + by' - d) → stSh by' frm n d y = b := fun b h hb => by
    unfold stSh
    rw [if_pos h]
    exact Bool.eq_iff_iff.2 (by rw [hb, Bool.and_eq_true, decide_eq_true_iff])
  have f2 : n - d < frm → stSh by' frm n d y = y := fun h => by unfold stSh; rw [if_neg (by omega)]
  cases y
  · skip
    refine VCalls_of_Wl (Tf := fun {_} _ => fzT [] (T ())) (fun {_} => tabOk.frz []) [] 400 Tryz.func44 rfl (fun {_} => by kernel_rfl) (Nat.le_of_ble_eq_true rfl) @fun ⟨_, _, _, _, _, _, _, _, _, _, _, _, _, _, _, _, _, _, _, _, _, _, _, _, _, _, _, _, _, _, _, _, _, _, _, _, _, _, wp, wf⟩ nH R hnH hR => ?_
    subst hnH
    cbv
    try simp only [wp, (show ∀ n : Nat, _ = n from fun n => wf.2.2.2.2.2.2.2.2.2.2.2.2.2.1 (Int.ofNat n)), getL, takeL, dropL, TK.isAgg, reduceIte]
    have hA : frm ≤ n - d → ∀ K2 x b, n + by' = x → (b = true ↔ false = true ∧ frm ≤ n + by' - d) → R (tml op x s k C N W Q m G) (hpSh frm by' b ++ K2) := fun h K2 x b hx hb => hR _ _ ⟨K2, by rw [e1 h, hx], by rw [f1 b h hb]⟩
    have hB : n - d < frm → ∀ K2, R (tml op n s k C N W Q m G) (hpSh frm by' false ++ K2) := fun h K2 => hR _ _ ⟨K2, by rw [e2 h], by rw [f2 h]⟩
    clear hR e1 e2 f1 f2
    repeat' first | (with_reducible refine And.intro ?_ ?_) | intro c9 | (refine Later.mk ?_; cbv; try simp only [wp, (show ∀ n : Nat, _ = n from fun n => wf.2.2.2.2.2.2.2.2.2.2.2.2.2.1 (Int.ofNat n)), (show _ = (0 : Nat) from wf.2.2.2.2.2.2.2.2.2.2.2.2.2.1 0), getL, takeL, dropL, TK.isAgg, reduceIte])
    all_goals first
      | exact hB (by clear hA hB; exact (by (try simp only [wf, nc, nc', Int.toNat_natCast, bsz, ByteArray.size_append, List.length_cons, List.length_nil] at *); (try simp (disch := omega) only [w64, w32, wu8] at *); first | done | omega)) _
      | exact hA (by clear hA hB; exact (by (try simp only [wf, nc, nc', Int.toNat_natCast, bsz, ByteArray.size_append, List.length_cons, List.length_nil] at *); (try simp (disch := omega) only [w64, w32, wu8] at *); first | done | omega)) _ _ _ (by clear hA hB; exact (by (try simp only [wf, nc, nc', Int.toNat_natCast, bsz, ByteArray.size_append, List.length_cons, List.length_nil] at *); (try simp (disch := omega) only [w64, w32, wu8] at *); first | done | omega)) (iffF fun h => by cases h.1)
  · skip
    refine VCalls_of_Wl (Tf := fun {_} _ => fzT [] (T ())) (fun {_} => tabOk.frz []) [] 400 Tryz.func44 rfl (fun {_} => by kernel_rfl) (Nat.le_of_ble_eq_true rfl) @fun ⟨_, _, _, _, _, _, _, _, _, _, _, _, _, _, _, _, _, _, _, _, _, _, _, _, _, _, _, _, _, _, _, _, _, _, _, _, _, _, wp, wf⟩ nH R hnH hR => ?_
    subst hnH
    cbv
    try simp only [wp, (show ∀ n : Nat, _ = n from fun n => wf.2.2.2.2.2.2.2.2.2.2.2.2.2.1 (Int.ofNat n)), getL, takeL, dropL, TK.isAgg, reduceIte]
    have hA : frm ≤ n - d → ∀ K2 x b, n + by' = x → (b = true ↔ true = true ∧ frm ≤ n + by' - d) → R (tml op x s k C N W Q m G) (hpSh frm by' b ++ K2) := fun h K2 x b hx hb => hR _ _ ⟨K2, by rw [e1 h, hx], by rw [f1 b h hb]⟩
    have hB : n - d < frm → ∀ K2, R (tml op n s k C N W Q m G) (hpSh frm by' true ++ K2) := fun h K2 => hR _ _ ⟨K2, by rw [e2 h], by rw [f2 h]⟩
    clear hR e1 e2 f1 f2
    repeat' first | (with_reducible refine And.intro ?_ ?_) | intro c9 | (refine Later.mk ?_; cbv; try simp only [wp, (show ∀ n : Nat, _ = n from fun n => wf.2.2.2.2.2.2.2.2.2.2.2.2.2.1 (Int.ofNat n)), (show _ = (0 : Nat) from wf.2.2.2.2.2.2.2.2.2.2.2.2.2.1 0), getL, takeL, dropL, TK.isAgg, reduceIte])
    all_goals first
      | exact hB (by clear hA hB; exact (by (try simp only [wf, nc, nc', Int.toNat_natCast, bsz, ByteArray.size_append, List.length_cons, List.length_nil] at *); (try simp (disch := omega) only [w64, w32, wu8] at *); first | done | omega)) _
      | exact hA (by clear hA hB; exact (by (try simp only [wf, nc, nc', Int.toNat_natCast, bsz, ByteArray.size_append, List.length_cons, List.length_nil] at *); (try simp (disch := omega) only [w64, w32, wu8] at *); first | done | omega)) _ _ _ (by clear hA hB; exact (by (try simp only [wf, nc, nc', Int.toNat_natCast, bsz, ByteArray.size_append, List.length_cons, List.length_nil] at *); (try simp (disch := omega) only [w64, w32, wu8] at *); first | done | omega)) (by clear hA hB; first | exact iffT ⟨rfl, (by (try simp only [wf, nc, nc', Int.toNat_natCast, bsz, ByteArray.size_append, List.length_cons, List.length_nil] at *); (try simp (disch := omega) only [w64, w32, wu8] at *); first | done | omega)⟩ | exact iffF fun h => (by have h := h.2; exact absurd h (by (try simp only [wf, nc, nc', Int.toNat_natCast, bsz, ByteArray.size_append, List.length_cons, List.length_nil] at *); (try simp (disch := omega) only [w64, w32, wu8] at *); first | done | omega)))
end Go.VM

namespace Go.VM
open Go.Proofs Go
set_option maxRecDepth 100000
set_option linter.unusedVariables false
set_option linter.unusedSimpArgs false
theorem CopyLevel (c : Int) (n : Nat) (V P0 : Nat → Int) (hn : n < 2 ^ 20) : VFun (P ()) 127 [lv c n V P0] (fun r => r = lv c n V P0) := by
  refine vfunO (Tf := fun {_} _ => fzT [1] (T ())) (fun {_} => tabOk.frz [1]) [] 400 Tryz.func127 rfl (fun {_} => by kernel_rfl) rfl (Nat.le_of_ble_eq_true rfl) @fun ⟨_, _, _, _, _, _, _, _, _, _, _, _, _, _, _, _, _, _, _, _, _, _, _, _, _, _, _, _, _, _, _, _, _, _, _, _, _, _, wp, wf⟩ R hR => ?_
  cbv
  try simp only [wp, (show ∀ n : Nat, _ = n from fun n => wf.2.2.2.2.2.2.2.2.2.2.2.2.2.1 (Int.ofNat n)), getL, takeL, dropL, TK.isAgg, reduceIte]
  replace hR := fun H r hf => hR r H (lv c n V P0) hf rfl
  refine loopO (Tf := fun {_} _ => fzT [1] (T ())) (fun {_} => tabOk.frz [1]) [] 400 (fun y : Nat => match y with
    | 0 => ⟨[.undef, .iptr (fun x j => getL [.int .i64 c, .sl n 2 (lvF V P0)] j .nilp) 0 0 2, .ptr 0 0, .ptr 1 0, .d (.int .i64 0), .undef, .undef, .undef, .undef, .undef, .undef, .undef, .undef, .undef, .undef, .undef, .undef, .undef, .undef, .undef, .undef, .undef, .undef, .undef, .undef, .undef], [.box [.d (.int .i64 0), .nils], .box [.d (.int .i64 c), .nils]]⟩
    | i + 1 => ⟨[.undef, .iptr (fun x j => getL [.int .i64 c, .sl n 2 (lvF V P0)] j .nilp) 0 0 2, .ptr 0 0, .ptr 1 0, .d (.int .i64 (i + 1 : Nat)), .undef, .undef, .undef, .undef, .undef, .undef, .undef, .undef, .undef, .undef, .undef, .undef, .undef, .undef, .undef, .undef, .undef, .undef, .undef, .undef, .undef], [.box [.d (.int .i64 0), .nils], .box [.d (.int .i64 c), .ref 3 0 (i + 1) 2], .dead, .arr (i + 1) 2 (lvF V P0) 0]⟩) (fun y => n - y) (fun y => y ≤ n) 0 (Nat.zero_le _) (fun {_} => by kernel_rfl) ?_ (fun i => by cases i <;> kernel_rfl) @fun ⟨_, _, _, _, _, _, _, _, _, _, _, _, _, _, _, _, _, _, _, _, _, _, _, _, _, _, _, _, _, _, _, _, _, _, _, _, _, _, wpa, wfa⟩ i Bk hi hBk => ?_
  · (cbv; try simp only [wf, exD, exL, exT, exB, exA, leLs, leL_d, leL_undef, leL_nils, leA_nils, deq_refl, deq_int, deq_bool, deq_str, and_true, true_and, AObj.iter.injEq, nc, nc']; try simp (disch := omega) only [w64, w32, wu8])
    exact ⟨rfl, rfl⟩
  cases i with
  | zero =>
    (cbv; try simp only [wp, (show ∀ n : Nat, _ = n from fun n => wf.2.2.2.2.2.2.2.2.2.2.2.2.2.1 (Int.ofNat n)), (show _ = (0 : Nat) from wf.2.2.2.2.2.2.2.2.2.2.2.2.2.1 0), wpa, (show ∀ n : Nat, _ = n from fun n => wfa.2.2.2.2.2.2.2.2.2.2.2.2.2.1 (Int.ofNat n)), (show _ = (0 : Nat) from wfa.2.2.2.2.2.2.2.2.2.2.2.2.2.1 0), getL, takeL, dropL, TK.isAgg, reduceIte])
    refine ⟨fun e => ?_, fun e => ?_⟩
    · have e : 0 < n := (by (try simp only [wf, wfa, nc, nc', Int.toNat_natCast, bsz, ByteArray.size_append, List.length_cons, List.length_nil] at *); (try simp (disch := omega) only [w64, w32, wu8] at *); first | done | omega)
      (refine Later.mk ?_; cbv; try simp only [wp, (show ∀ n : Nat, _ = n from fun n => wf.2.2.2.2.2.2.2.2.2.2.2.2.2.1 (Int.ofNat n)), (show _ = (0 : Nat) from wf.2.2.2.2.2.2.2.2.2.2.2.2.2.1 0), wpa, (show ∀ n : Nat, _ = n from fun n => wfa.2.2.2.2.2.2.2.2.2.2.2.2.2.1 (Int.ofNat n)), (show _ = (0 : Nat) from wfa.2.2.2.2.2.2.2.2.2.2.2.2.2.1 0), getL, takeL, dropL, TK.isAgg, reduceIte])
      repeat' first | with_reducible refine And.intro ?_ ?_ | intro c9
      all_goals first | exact (by (try simp only [wf, wfa, nc, nc', Int.toNat_natCast, bsz, ByteArray.size_append, List.length_cons, List.length_nil] at *); (try simp (disch := omega) only [w64, w32, wu8] at *); first | done | omega) | trivial | skip
      all_goals
        refine hBk 1 _ (by omega) (by omega) ?_
        (cbv; try simp only [wf, wfa, exD, exL, exT, exB, exA, leLs, leL_d, leL_undef, leL_nils, leA_nils, deq_refl, deq_int, deq_bool, deq_str, and_true, true_and, AObj.iter.injEq, nc, nc']; try simp (disch := omega) only [w64, w32, wu8])
        exact ⟨rfl, rfl, rfl, Nat.le_refl _, Nat.zero_le _, fun x j hx hj => .of_eq (by
          obtain rfl : x = 0 := by omega
          match j, hj with
          | 0, _ => rfl
          | 1, _ => rfl)⟩
    · obtain rfl : n = 0 := by have : n ≤ 0 := (by (try simp only [wf, wfa, nc, nc', Int.toNat_natCast, bsz, ByteArray.size_append, List.length_cons, List.length_nil] at *); (try simp (disch := omega) only [w64, w32, wu8] at *); first | done | omega); omega
      (refine Later.mk ?_; cbv; try simp only [wp, (show ∀ n : Nat, _ = n from fun n => wf.2.2.2.2.2.2.2.2.2.2.2.2.2.1 (Int.ofNat n)), (show _ = (0 : Nat) from wf.2.2.2.2.2.2.2.2.2.2.2.2.2.1 0), wpa, (show ∀ n : Nat, _ = n from fun n => wfa.2.2.2.2.2.2.2.2.2.2.2.2.2.1 (Int.ofNat n)), (show _ = (0 : Nat) from wfa.2.2.2.2.2.2.2.2.2.2.2.2.2.1 0), getL, takeL, dropL, TK.isAgg, reduceIte])
      exact hR _ _ (.agg2 (.d _) (.nils _ _))
  | succ i =>
    (cbv; try simp only [wp, (show ∀ n : Nat, _ = n from fun n => wf.2.2.2.2.2.2.2.2.2.2.2.2.2.1 (Int.ofNat n)), (show _ = (0 : Nat) from wf.2.2.2.2.2.2.2.2.2.2.2.2.2.1 0), wpa, (show ∀ n : Nat, _ = n from fun n => wfa.2.2.2.2.2.2.2.2.2.2.2.2.2.1 (Int.ofNat n)), (show _ = (0 : Nat) from wfa.2.2.2.2.2.2.2.2.2.2.2.2.2.1 0), getL, takeL, dropL, TK.isAgg, reduceIte])
    refine ⟨fun e => ?_, fun e => ?_⟩
    · have e : i + 1 < n := (by (try simp only [wf, wfa, nc, nc', Int.toNat_natCast, bsz, ByteArray.size_append, List.length_cons, List.length_nil] at *); (try simp (disch := omega) only [w64, w32, wu8] at *); first | done | omega)
      (refine Later.mk ?_; cbv; try simp only [wp, (show ∀ n : Nat, _ = n from fun n => wf.2.2.2.2.2.2.2.2.2.2.2.2.2.1 (Int.ofNat n)), (show _ = (0 : Nat) from wf.2.2.2.2.2.2.2.2.2.2.2.2.2.1 0), wpa, (show ∀ n : Nat, _ = n from fun n => wfa.2.2.2.2.2.2.2.2.2.2.2.2.2.1 (Int.ofNat n)), (show _ = (0 : Nat) from wfa.2.2.2.2.2.2.2.2.2.2.2.2.2.1 0), getL, takeL, dropL, TK.isAgg, reduceIte])
      repeat' first | with_reducible refine And.intro ?_ ?_ | intro c9
      all_goals first | exact (by (try simp only [wf, wfa, nc, nc', Int.toNat_natCast, bsz, ByteArray.size_append, List.length_cons, List.length_nil] at *); (try simp (disch := omega) only [w64, w32, wu8] at *); first | done | omega) | trivial | skip
      all_goals
        refine hBk (i + 2) _ (by omega) (by omega) ?_
        (cbv; try simp only [wf, wfa, exD, exL, exT, exB, exA, leLs, leL_d, leL_undef, leL_nils, leA_nils, deq_refl, deq_int, deq_bool, deq_str, and_true, true_and, AObj.iter.injEq, nc, nc']; try simp (disch := omega) only [w64, w32, wu8])
        exact ⟨rfl, rfl, rfl, Nat.le_refl _, Nat.zero_le _, fun x j hx hj => .of_eq (app_row2 (g' := lvF V P0) (fun _ _ _ _ => rfl) (fun j hj => by
          match j, hj with
          | 0, _ => rfl
          | 1, _ => rfl) x j hx hj)⟩
    · obtain rfl : n = i + 1 := by have : n ≤ i + 1 := (by (try simp only [wf, wfa, nc, nc', Int.toNat_natCast, bsz, ByteArray.size_append, List.length_cons, List.length_nil] at *); (try simp (disch := omega) only [w64, w32, wu8] at *); first | done | omega); omega
      (refine Later.mk ?_; cbv; try simp only [wp, (show ∀ n : Nat, _ = n from fun n => wf.2.2.2.2.2.2.2.2.2.2.2.2.2.1 (Int.ofNat n)), (show _ = (0 : Nat) from wf.2.2.2.2.2.2.2.2.2.2.2.2.2.1 0), wpa, (show ∀ n : Nat, _ = n from fun n => wfa.2.2.2.2.2.2.2.2.2.2.2.2.2.1 (Int.ofNat n)), (show _ = (0 : Nat) from wfa.2.2.2.2.2.2.2.2.2.2.2.2.2.1 0), getL, takeL, dropL, TK.isAgg, reduceIte])
      exact hR _ _ (.agg2 (.d _) (.ref0 _ _ _ _ _ _ rfl rfl))
end Go.VM

namespace Go.VM
open Go.Proofs Go
set_option maxRecDepth 100000
set_option linter.unusedVariables false
set_option linter.unusedSimpArgs false
theorem CopyLevels (k : Nat) (C : Nat → Int) (N : Nat → Nat) (W Q : Nat → Nat → Int) (hk : k < 2 ^ 30) (hN : ∀ i, i < k → N i < 2 ^ 20) : VFun (P ()) 72 [.d (.sl k 2 (lsF C N W Q))] (fun r => r = .d (.sl k 2 (lsF C N W Q))) := by
  refine vfunO (Tf := fun {_} _ => fzT [] (T ())) (fun {_} => tabOk.frz []) [] 400 Tryz.func72 rfl (fun {_} => by kernel_rfl) rfl (Nat.le_of_ble_eq_true rfl) @fun ⟨_, _, _, _, _, _, _, _, _, _, _, _, _, _, _, _, _, _, _, _, _, _, _, _, _, _, _, _, _, _, _, _, _, _, _, _, _, _, wp, wf⟩ R hR => ?_
  cbv
  try simp only [wp, (show ∀ n : Nat, _ = n from fun n => wf.2.2.2.2.2.2.2.2.2.2.2.2.2.1 (Int.ofNat n)), getL, takeL, dropL, TK.isAgg, reduceIte]
  replace hR := fun H r hf => hR r H (.d (.sl k 2 (lsF C N W Q))) hf rfl
  refine loopGhost 3 2 rfl ?_
  refine loopO (Tf := fun {_} _ => fzT [] (T ())) (fun {_} => tabOk.frz []) [] 400 (fun i : Nat => ⟨[.d (.sl k 2 (lsF C N W Q)), .undef, .undef, .ref 0 0 i 2, .d (.int .i64 i), .undef, .undef, .undef, .undef, .undef, .undef, .undef, .undef, .undef, .undef, .undef, .undef, .undef, .undef, .undef], [.arr i 2 (lsF C N W Q) 0]⟩) (fun i => k - i) (fun i => i ≤ k) 0 (Nat.zero_le _) (fun {_} => by kernel_rfl) ?_ (fun i => by kernel_rfl) @fun ⟨_, _, _, _, _, _, _, _, _, _, _, _, _, _, _, _, _, _, _, _, _, _, _, _, _, _, _, _, _, _, _, _, _, _, _, _, _, _, wpa, wfa⟩ i Bk hi hBk => ?_
  · (cbv; try simp only [wf, exD, exL, exT, exB, exA, leLs, leL_d, leL_undef, leL_nils, leA_nils, deq_refl, deq_int, deq_bool, deq_str, and_true, true_and, AObj.iter.injEq, nc, nc']; try simp (disch := omega) only [w64, w32, wu8])
    exact ⟨rfl, Nat.le_refl _, Nat.le_refl _, fun i j hi => absurd hi (Nat.not_lt_zero _)⟩
  (cbv; try simp only [wp, (show ∀ n : Nat, _ = n from fun n => wf.2.2.2.2.2.2.2.2.2.2.2.2.2.1 (Int.ofNat n)), (show _ = (0 : Nat) from wf.2.2.2.2.2.2.2.2.2.2.2.2.2.1 0), wpa, (show ∀ n : Nat, _ = n from fun n => wfa.2.2.2.2.2.2.2.2.2.2.2.2.2.1 (Int.ofNat n)), (show _ = (0 : Nat) from wfa.2.2.2.2.2.2.2.2.2.2.2.2.2.1 0), getL, takeL, dropL, TK.isAgg, reduceIte])
  refine ⟨fun e => ?_, fun e => ?_⟩
  · have e : i < k := (by (try simp only [wf, wfa, nc, nc', Int.toNat_natCast, bsz, ByteArray.size_append, List.length_cons, List.length_nil] at *); (try simp (disch := omega) only [w64, w32, wu8] at *); first | done | omega)
    have hl := CopyLevel (C i) (N i) (W i) (Q i) (hN i e)
    (refine Later.mk ?_; cbv; try simp only [wp, (show ∀ n : Nat, _ = n from fun n => wf.2.2.2.2.2.2.2.2.2.2.2.2.2.1 (Int.ofNat n)), (show _ = (0 : Nat) from wf.2.2.2.2.2.2.2.2.2.2.2.2.2.1 0), wpa, (show ∀ n : Nat, _ = n from fun n => wfa.2.2.2.2.2.2.2.2.2.2.2.2.2.1 (Int.ofNat n)), (show _ = (0 : Nat) from wfa.2.2.2.2.2.2.2.2.2.2.2.2.2.1 0), getL, takeL, dropL, TK.isAgg, reduceIte])
    repeat' first | with_reducible refine And.intro ?_ ?_ | intro c9
    all_goals first | exact (by (try simp only [wf, wfa, nc, nc', Int.toNat_natCast, bsz, ByteArray.size_append, List.length_cons, List.length_nil] at *); (try simp (disch := omega) only [w64, w32, wu8] at *); first | done | omega) | trivial | skip
    all_goals
      refine hl.call ?_
      rintro _ rfl
      (cbv; try simp only [wp, (show ∀ n : Nat, _ = n from fun n => wf.2.2.2.2.2.2.2.2.2.2.2.2.2.1 (Int.ofNat n)), (show _ = (0 : Nat) from wf.2.2.2.2.2.2.2.2.2.2.2.2.2.1 0), wpa, (show ∀ n : Nat, _ = n from fun n => wfa.2.2.2.2.2.2.2.2.2.2.2.2.2.1 (Int.ofNat n)), (show _ = (0 : Nat) from wfa.2.2.2.2.2.2.2.2.2.2.2.2.2.1 0), getL, takeL, dropL, TK.isAgg, reduceIte])
      repeat' first | trivial | with_reducible refine And.intro ?_ ?_ | intro c9
      all_goals first | exact Nat.zero_le _ | trivial | exact (by (try simp only [wf, wfa, nc, nc', Int.toNat_natCast, bsz, ByteArray.size_append, List.length_cons, List.length_nil] at *); (try simp (disch := omega) only [w64, w32, wu8] at *); first | done | omega) | refine hBk (i + 1) _ (by omega) (by omega) ?_
      (cbv; try simp only [wf, wfa, exD, exL, exT, exB, exA, leLs, leL_d, leL_undef, leL_nils, leA_nils, deq_refl, deq_int, deq_bool, deq_str, and_true, true_and, AObj.iter.injEq, nc, nc']; try simp (disch := omega) only [w64, w32, wu8])
      ((try simp only [wf, wfa, nc, nc', Int.toNat_natCast, bsz, ByteArray.size_append, List.length_cons, List.length_nil] at *); (try simp (disch := omega) only [w64, w32, wu8] at *))
      exact ⟨by omega, Nat.le_refl _, Nat.zero_le _, fun x j hx hj => .of_eq (app_row2 (g' := lsF C N W Q) (fun _ _ _ _ => rfl) (fun j hj => by
        match j, hj with
        | 0, _ => rfl
        | 1, _ => rfl) x j hx hj)⟩
  · obtain rfl : i = k := (by (try simp only [wf, wfa, nc, nc', Int.toNat_natCast, bsz, ByteArray.size_append, List.length_cons, List.length_nil] at *); (try simp (disch := omega) only [w64, w32, wu8] at *); first | done | omega)
    (refine Later.mk ?_; cbv; try simp only [wp, (show ∀ n : Nat, _ = n from fun n => wf.2.2.2.2.2.2.2.2.2.2.2.2.2.1 (Int.ofNat n)), (show _ = (0 : Nat) from wf.2.2.2.2.2.2.2.2.2.2.2.2.2.1 0), wpa, (show ∀ n : Nat, _ = n from fun n => wfa.2.2.2.2.2.2.2.2.2.2.2.2.2.1 (Int.ofNat n)), (show _ = (0 : Nat) from wfa.2.2.2.2.2.2.2.2.2.2.2.2.2.1 0), getL, takeL, dropL, TK.isAgg, reduceIte])
    exact hR _ _ (.ref0 0 i 2 i 0 _ rfl rfl)
theorem CopyTerms (m : Nat) (G : Nat → Nat → D) (hm : m < 2 ^ 30) (ih : ∀ i, i < m → VFun (P ()) 39 [kid G i] (fun r => r = kid G i)) : VFun (P ()) 13 [.d (.sl m 5 G)] (fun r => r = .d (.sl m 5 G)) := by
  refine vfunO (Tf := fun {_} _ => fzT [] (T ())) (fun {_} => tabOk.frz []) [] 400 Tryz.func13 rfl (fun {_} => by kernel_rfl) rfl (Nat.le_of_ble_eq_true rfl) @fun ⟨_, _, _, _, _, _, _, _, _, _, _, _, _, _, _, _, _, _, _, _, _, _, _, _, _, _, _, _, _, _, _, _, _, _, _, _, _, _, wp, wf⟩ R hR => ?_
  cbv
  try simp only [wp, (show ∀ n : Nat, _ = n from fun n => wf.2.2.2.2.2.2.2.2.2.2.2.2.2.1 (Int.ofNat n)), getL, takeL, dropL, TK.isAgg, reduceIte]
  replace hR := fun H r hf => hR r H (.d (.sl m 5 G)) hf rfl
  refine loopGhost 3 5 rfl ?_
  refine loopO (Tf := fun {_} _ => fzT [] (T ())) (fun {_} => tabOk.frz []) [] 400 (fun i : Nat => ⟨[.d (.sl m 5 G), .undef, .undef, .ref 0 0 i 5, .d (.int .i64 i), .undef, .undef, .undef, .undef, .undef, .undef, .undef, .undef, .undef, .undef, .undef, .undef, .undef, .undef, .undef], [.arr i 5 G 0]⟩) (fun i => m - i) (fun i => i ≤ m) 0 (Nat.zero_le _) (fun {_} => by kernel_rfl) ?_ (fun i => by kernel_rfl) @fun ⟨_, _, _, _, _, _, _, _, _, _, _, _, _, _, _, _, _, _, _, _, _, _, _, _, _, _, _, _, _, _, _, _, _, _, _, _, _, _, wpa, wfa⟩ i Bk hi hBk => ?_
  · (cbv; try simp only [wf, exD, exL, exT, exB, exA, leLs, leL_d, leL_undef, leL_nils, leA_nils, deq_refl, deq_int, deq_bool, deq_str, and_true, true_and, AObj.iter.injEq, nc, nc']; try simp (disch := omega) only [w64, w32, wu8])
    exact ⟨rfl, Nat.le_refl _, Nat.le_refl _, fun i j hi => absurd hi (Nat.not_lt_zero _)⟩
  (cbv; try simp only [wp, (show ∀ n : Nat, _ = n from fun n => wf.2.2.2.2.2.2.2.2.2.2.2.2.2.1 (Int.ofNat n)), (show _ = (0 : Nat) from wf.2.2.2.2.2.2.2.2.2.2.2.2.2.1 0), wpa, (show ∀ n : Nat, _ = n from fun n => wfa.2.2.2.2.2.2.2.2.2.2.2.2.2.1 (Int.ofNat n)), (show _ = (0 : Nat) from wfa.2.2.2.2.2.2.2.2.2.2.2.2.2.1 0), getL, takeL, dropL, TK.isAgg, reduceIte])
  refine ⟨fun e => ?_, fun e => ?_⟩
  · have e : i < m := (by (try simp only [wf, wfa, nc, nc', Int.toNat_natCast, bsz, ByteArray.size_append, List.length_cons, List.length_nil] at *); (try simp (disch := omega) only [w64, w32, wu8] at *); first | done | omega)
    have hl := ih i e
    (refine Later.mk ?_; cbv; try simp only [wp, (show ∀ n : Nat, _ = n from fun n => wf.2.2.2.2.2.2.2.2.2.2.2.2.2.1 (Int.ofNat n)), (show _ = (0 : Nat) from wf.2.2.2.2.2.2.2.2.2.2.2.2.2.1 0), wpa, (show ∀ n : Nat, _ = n from fun n => wfa.2.2.2.2.2.2.2.2.2.2.2.2.2.1 (Int.ofNat n)), (show _ = (0 : Nat) from wfa.2.2.2.2.2.2.2.2.2.2.2.2.2.1 0), getL, takeL, dropL, TK.isAgg, reduceIte])
    repeat' first | with_reducible refine And.intro ?_ ?_ | intro c9
    all_goals first | exact (by (try simp only [wf, wfa, nc, nc', Int.toNat_natCast, bsz, ByteArray.size_append, List.length_cons, List.length_nil] at *); (try simp (disch := omega) only [w64, w32, wu8] at *); first | done | omega) | trivial | skip
    all_goals
      refine hl.call ?_
      rintro _ rfl
      (cbv; try simp only [wp, (show ∀ n : Nat, _ = n from fun n => wf.2.2.2.2.2.2.2.2.2.2.2.2.2.1 (Int.ofNat n)), (show _ = (0 : Nat) from wf.2.2.2.2.2.2.2.2.2.2.2.2.2.1 0), wpa, (show ∀ n : Nat, _ = n from fun n => wfa.2.2.2.2.2.2.2.2.2.2.2.2.2.1 (Int.ofNat n)), (show _ = (0 : Nat) from wfa.2.2.2.2.2.2.2.2.2.2.2.2.2.1 0), getL, takeL, dropL, TK.isAgg, reduceIte])
      repeat' first | trivial | with_reducible refine And.intro ?_ ?_ | intro c9
      all_goals first | exact Nat.zero_le _ | trivial | exact (by (try simp only [wf, wfa, nc, nc', Int.toNat_natCast, bsz, ByteArray.size_append, List.length_cons, List.length_nil] at *); (try simp (disch := omega) only [w64, w32, wu8] at *); first | done | omega) | refine hBk (i + 1) _ (by omega) (by omega) ?_
      (cbv; try simp only [wf, wfa, exD, exL, exT, exB, exA, leLs, leL_d, leL_undef, leL_nils, leA_nils, deq_refl, deq_int, deq_bool, deq_str, and_true, true_and, AObj.iter.injEq, nc, nc']; try simp (disch := omega) only [w64, w32, wu8])
      ((try simp only [wf, wfa, nc, nc', Int.toNat_natCast, bsz, ByteArray.size_append, List.length_cons, List.length_nil] at *); (try simp (disch := omega) only [w64, w32, wu8] at *))
      exact ⟨by omega, Nat.le_refl _, Nat.zero_le _, fun x j hx hj => .of_eq (app_row2 (g' := G) (fun _ _ _ _ => rfl) (fun j hj => by
        match j, hj with
        | 0, _ | 1, _ | 2, _ | 3, _ | 4, _ => rfl) x j hx hj)⟩
  · obtain rfl : i = m := (by (try simp only [wf, wfa, nc, nc', Int.toNat_natCast, bsz, ByteArray.size_append, List.length_cons, List.length_nil] at *); (try simp (disch := omega) only [w64, w32, wu8] at *); first | done | omega)
    (refine Later.mk ?_; cbv; try simp only [wp, (show ∀ n : Nat, _ = n from fun n => wf.2.2.2.2.2.2.2.2.2.2.2.2.2.1 (Int.ofNat n)), (show _ = (0 : Nat) from wf.2.2.2.2.2.2.2.2.2.2.2.2.2.1 0), wpa, (show ∀ n : Nat, _ = n from fun n => wfa.2.2.2.2.2.2.2.2.2.2.2.2.2.1 (Int.ofNat n)), (show _ = (0 : Nat) from wfa.2.2.2.2.2.2.2.2.2.2.2.2.2.1 0), getL, takeL, dropL, TK.isAgg, reduceIte])
    exact hR _ _ (.ref0 0 i 5 i 0 _ rfl rfl)
theorem Frz.same5 [Glb] {H : AHeap} (a b c d e : D) : Frz H (.agg [.d a, .d b, .d c, .d d, .d e]) (.agg [.d a, .d b, .d c, .d d, .d e]) := .aggD [a, b, c, d, e]
/-- sizes that every walk bears -/
def Small (t : Tm) : Prop := nodesT t ≤ 100000
theorem Small.kid {op n : Int} {s : ByteArray} {k : Nat} {C : Nat → Int} {N : Nat → Nat} {W Q : Nat → Nat → Int} {m : Nat} {ok : TmOk op n s k N m} {K : Nat → Tm} (h : Small (.nd op n s k C N W Q m ok K)) : k + m ≤ 100000 ∧ (∀ i, i < k → N i ≤ 100000) ∧ ∀ i, i < m → Small (K i) := by
  unfold Small at h ⊢
  rw [nodesT_nd] at h
  have hk := sumF_ge (f := fun i => 1 + N i) (fun i => by omega) k
  have hm := sumF_ge (f := fun i => nodesT (K i)) (fun i => nodesT_pos _) m
  refine ⟨by omega, fun i hi => ?_, fun i hi => ?_⟩
  · have := sumF_one (f := fun i => 1 + N i) hi; omega
  · have := sumF_one (f := fun i => nodesT (K i)) hi; omega
theorem Light.small {t : Tm} {b : Nat} (h : Light t b) (hb : b ≤ 100000) : Small t := by have := h.1; unfold Small; omega
theorem CopyTerm (t : Tm) : Small t → VFun (P ()) 39 [tm t] (fun r => r = tm t) := by
  refine Tm.walk (P := fun t => Small t → VFun (P ()) 39 [tm t] (fun r => r = tm t)) ?_ t
  clear t
  intro op n s k C N W Q m ok K G hG e ih hs
  obtain ⟨h1, h2, h3⟩ := hs.kid
  rw [e]
  clear e hs
  have hc := CopyLevels k C N W Q (by omega) (fun i hi => by have := h2 i hi; omega)
  have ht := CopyTerms m G (by omega) (fun i hi => by have := ih i hi (h3 i hi); rwa [hG i hi] at this)
  refine vfunO (Tf := fun {_} _ => fzT [1] (T ())) (fun {_} => tabOk.frz [1]) [] 400 Tryz.func39 rfl (fun {_} => by kernel_rfl) rfl (Nat.le_of_ble_eq_true rfl) @fun ⟨_, _, _, _, _, _, _, _, _, _, _, _, _, _, _, _, _, _, _, _, _, _, _, _, _, _, _, _, _, _, _, _, _, _, _, _, _, _, wp, wf⟩ R hR => ?_
  cbv
  try simp only [wp, (show ∀ n : Nat, _ = n from fun n => wf.2.2.2.2.2.2.2.2.2.2.2.2.2.1 (Int.ofNat n)), getL, takeL, dropL, TK.isAgg, reduceIte]
  repeat' first | with_reducible refine And.intro ?_ ?_ | intro c9
  refine hc.call ?_
  rintro _ rfl
  (cbv; try simp only [wp, (show ∀ n : Nat, _ = n from fun n => wf.2.2.2.2.2.2.2.2.2.2.2.2.2.1 (Int.ofNat n)), (show _ = (0 : Nat) from wf.2.2.2.2.2.2.2.2.2.2.2.2.2.1 0), getL, takeL, dropL, TK.isAgg, reduceIte])
  repeat' first | with_reducible refine And.intro ?_ ?_ | intro c9
  refine ht.call ?_
  rintro _ rfl
  (cbv; try simp only [wp, (show ∀ n : Nat, _ = n from fun n => wf.2.2.2.2.2.2.2.2.2.2.2.2.2.1 (Int.ofNat n)), (show _ = (0 : Nat) from wf.2.2.2.2.2.2.2.2.2.2.2.2.2.1 0), getL, takeL, dropL, TK.isAgg, reduceIte])
  repeat' first | with_reducible refine And.intro ?_ ?_ | intro c9
  all_goals first | trivial | exact Nat.zero_le _ | exact hR _ _ _ (.same5 _ _ _ _ _) rfl
theorem EqLevels (k : Nat) (C : Nat → Int) (N : Nat → Nat) (W Q : Nat → Nat → Int) (hk : k < 2 ^ 30) (hN : ∀ i, i < k → N i < 2 ^ 20) : VFun (P ()) 42 [.d (.sl k 2 (lsF C N W Q)), .d (.sl k 2 (lsF C N W Q))] (fun r => r = .d (.bool true)) := by
  refine vfunO (Tf := fun {_} _ => fzT [] (T ())) (fun {_} => tabOk.frz []) [(6, upF 0 10)] 400 Tryz.func42 rfl (fun {_} => by kernel_rfl) rfl (Nat.le_of_ble_eq_true rfl) @fun ⟨_, _, _, _, _, _, _, _, _, _, _, _, _, _, _, _, _, _, _, _, _, _, _, _, _, _, _, _, _, _, _, _, _, _, _, _, _, _, wp, wf⟩ R hR => ?_
  cbv
  try simp only [wp, (show ∀ n : Nat, _ = n from fun n => wf.2.2.2.2.2.2.2.2.2.2.2.2.2.1 (Int.ofNat n)), getL, takeL, dropL, TK.isAgg, reduceIte]
  replace hR := fun H => hR (.d (.bool true)) H _ (.d (.bool true)) rfl
  repeat' first | (with_reducible refine And.intro ?_ ?_) | intro c9 | (exfalso; exact absurd rfl c9) | trivial | (refine Later.mk ?_; cbv; try simp only [wp, (show ∀ n : Nat, _ = n from fun n => wf.2.2.2.2.2.2.2.2.2.2.2.2.2.1 (Int.ofNat n)), (show _ = (0 : Nat) from wf.2.2.2.2.2.2.2.2.2.2.2.2.2.1 0), getL, takeL, dropL, TK.isAgg, reduceIte])
  refine loopO (Tf := fun {_} _ => fzT [] (T ())) (fun {_} => tabOk.frz []) [(6, upF 0 10)] 400 (fun i : Nat => ⟨[.d (.sl k 2 (lsF C N W Q)), .d (.sl k 2 (lsF C N W Q)), .undef, .undef, .d (.bool false), .d (.int .i64 i), .undef, .undef, .undef, .undef, .undef, .undef, .undef, .undef, .undef, .undef, .undef, .undef, .undef, .undef, .undef, .undef, .undef, .undef, .undef, .undef, .undef], []⟩) (fun i => k - i) (fun i => i ≤ k) 0 (Nat.zero_le _) (fun {_} => by kernel_rfl) ?_ (fun i => by kernel_rfl) @fun ⟨_, _, _, _, _, _, _, _, _, _, _, _, _, _, _, _, _, _, _, _, _, _, _, _, _, _, _, _, _, _, _, _, _, _, _, _, _, _, wpa, wfa⟩ i Bk hi hBk => ?_
  · ((cbv; try simp only [wf, exD, exL, exT, exB, exA, leLs, leL_d, leL_undef, leL_nils, leA_nils, deq_refl, deq_int, deq_bool, deq_str, and_true, true_and, AObj.iter.injEq, nc, nc']; try simp (disch := omega) only [w64, w32, wu8]); first | done | rfl | omega | (simp; done) | (simp; omega) | skip)
  (cbv; try simp only [wp, (show ∀ n : Nat, _ = n from fun n => wf.2.2.2.2.2.2.2.2.2.2.2.2.2.1 (Int.ofNat n)), (show _ = (0 : Nat) from wf.2.2.2.2.2.2.2.2.2.2.2.2.2.1 0), wpa, (show ∀ n : Nat, _ = n from fun n => wfa.2.2.2.2.2.2.2.2.2.2.2.2.2.1 (Int.ofNat n)), (show _ = (0 : Nat) from wfa.2.2.2.2.2.2.2.2.2.2.2.2.2.1 0), getL, takeL, dropL, TK.isAgg, reduceIte])
  refine ⟨fun e => ?_, fun e => ?_⟩
  · have e : i < k := (by (try simp only [wf, wfa, nc, nc', Int.toNat_natCast, bsz, ByteArray.size_append, List.length_cons, List.length_nil] at *); (try simp (disch := omega) only [w64, w32, wu8] at *); first | done | omega)
    have hl := EqLevel (C i) (C i) (N i) (N i) (W i) (Q i) (W i) (Q i) (by have := hN i e; omega) (by have := hN i e; omega)
    (refine Later.mk ?_; cbv; try simp only [wp, (show ∀ n : Nat, _ = n from fun n => wf.2.2.2.2.2.2.2.2.2.2.2.2.2.1 (Int.ofNat n)), (show _ = (0 : Nat) from wf.2.2.2.2.2.2.2.2.2.2.2.2.2.1 0), wpa, (show ∀ n : Nat, _ = n from fun n => wfa.2.2.2.2.2.2.2.2.2.2.2.2.2.1 (Int.ofNat n)), (show _ = (0 : Nat) from wfa.2.2.2.2.2.2.2.2.2.2.2.2.2.1 0), getL, takeL, dropL, TK.isAgg, reduceIte])
    repeat' first | with_reducible refine And.intro ?_ ?_ | intro c9
    all_goals first | exact (by (try simp only [wf, wfa, nc, nc', Int.toNat_natCast, bsz, ByteArray.size_append, List.length_cons, List.length_nil] at *); (try simp (disch := omega) only [w64, w32, wu8] at *); first | done | omega) | trivial | skip
    all_goals
      refine hl.call ?_
      rintro _ ⟨b, hb, rfl⟩
      obtain rfl := hb.2 ⟨rfl, rfl⟩
      (cbv; try simp only [wp, (show ∀ n : Nat, _ = n from fun n => wf.2.2.2.2.2.2.2.2.2.2.2.2.2.1 (Int.ofNat n)), (show _ = (0 : Nat) from wf.2.2.2.2.2.2.2.2.2.2.2.2.2.1 0), wpa, (show ∀ n : Nat, _ = n from fun n => wfa.2.2.2.2.2.2.2.2.2.2.2.2.2.1 (Int.ofNat n)), (show _ = (0 : Nat) from wfa.2.2.2.2.2.2.2.2.2.2.2.2.2.1 0), getL, takeL, dropL, TK.isAgg, reduceIte])
      repeat' first | with_reducible refine And.intro ?_ ?_ | intro c9
      all_goals (refine Later.mk ?_; cbv; try simp only [wp, (show ∀ n : Nat, _ = n from fun n => wf.2.2.2.2.2.2.2.2.2.2.2.2.2.1 (Int.ofNat n)), (show _ = (0 : Nat) from wf.2.2.2.2.2.2.2.2.2.2.2.2.2.1 0), wpa, (show ∀ n : Nat, _ = n from fun n => wfa.2.2.2.2.2.2.2.2.2.2.2.2.2.1 (Int.ofNat n)), (show _ = (0 : Nat) from wfa.2.2.2.2.2.2.2.2.2.2.2.2.2.1 0), getL, takeL, dropL, TK.isAgg, reduceIte])
      refine hBk (i + 1) _ (by omega) (by omega) ?_
      ((cbv; try simp only [wf, wfa, exD, exL, exT, exB, exA, leLs, leL_d, leL_undef, leL_nils, leA_nils, deq_refl, deq_int, deq_bool, deq_str, and_true, true_and, AObj.iter.injEq, nc, nc']; try simp (disch := omega) only [w64, w32, wu8]); first | done | rfl | omega | (simp; done) | (simp; omega) | skip)
  · obtain rfl : i = k := (by (try simp only [wf, wfa, nc, nc', Int.toNat_natCast, bsz, ByteArray.size_append, List.length_cons, List.length_nil] at *); (try simp (disch := omega) only [w64, w32, wu8] at *); first | done | omega)
    (refine Later.mk ?_; cbv; try simp only [wp, (show ∀ n : Nat, _ = n from fun n => wf.2.2.2.2.2.2.2.2.2.2.2.2.2.1 (Int.ofNat n)), (show _ = (0 : Nat) from wf.2.2.2.2.2.2.2.2.2.2.2.2.2.1 0), wpa, (show ∀ n : Nat, _ = n from fun n => wfa.2.2.2.2.2.2.2.2.2.2.2.2.2.1 (Int.ofNat n)), (show _ = (0 : Nat) from wfa.2.2.2.2.2.2.2.2.2.2.2.2.2.1 0), getL, takeL, dropL, TK.isAgg, reduceIte])
    exact hR _
theorem EqTerms (m : Nat) (G : Nat → Nat → D) (hm : m < 2 ^ 30) (ih : ∀ i, i < m → VFun (P ()) 15 [kid G i, kid G i] (fun r => r = .d (.bool true))) : VFun (P ()) 17 [.d (.sl m 5 G), .d (.sl m 5 G)] (fun r => r = .d (.bool true)) := by
  refine vfunO (Tf := fun {_} _ => fzT [] (T ())) (fun {_} => tabOk.frz []) [(6, upF 0 10)] 400 Tryz.func17 rfl (fun {_} => by kernel_rfl) rfl (Nat.le_of_ble_eq_true rfl) @fun ⟨_, _, _, _, _, _, _, _, _, _, _, _, _, _, _, _, _, _, _, _, _, _, _, _, _, _, _, _, _, _, _, _, _, _, _, _, _, _, wp, wf⟩ R hR => ?_
  cbv
  try simp only [wp, (show ∀ n : Nat, _ = n from fun n => wf.2.2.2.2.2.2.2.2.2.2.2.2.2.1 (Int.ofNat n)), getL, takeL, dropL, TK.isAgg, reduceIte]
  replace hR := fun H => hR (.d (.bool true)) H _ (.d (.bool true)) rfl
  repeat' first | (with_reducible refine And.intro ?_ ?_) | intro c9 | (exfalso; exact absurd rfl c9) | trivial | (refine Later.mk ?_; cbv; try simp only [wp, (show ∀ n : Nat, _ = n from fun n => wf.2.2.2.2.2.2.2.2.2.2.2.2.2.1 (Int.ofNat n)), (show _ = (0 : Nat) from wf.2.2.2.2.2.2.2.2.2.2.2.2.2.1 0), getL, takeL, dropL, TK.isAgg, reduceIte])
  refine loopO (Tf := fun {_} _ => fzT [] (T ())) (fun {_} => tabOk.frz []) [(6, upF 0 10)] 400 (fun i : Nat => ⟨[.d (.sl m 5 G), .d (.sl m 5 G), .undef, .undef, .d (.bool false), .d (.int .i64 i), .undef, .undef, .undef, .undef, .undef, .undef, .undef, .undef, .undef, .undef, .undef, .undef, .undef, .undef, .undef, .undef, .undef, .undef, .undef, .undef, .undef], []⟩) (fun i => m - i) (fun i => i ≤ m) 0 (Nat.zero_le _) (fun {_} => by kernel_rfl) ?_ (fun i => by kernel_rfl) @fun ⟨_, _, _, _, _, _, _, _, _, _, _, _, _, _, _, _, _, _, _, _, _, _, _, _, _, _, _, _, _, _, _, _, _, _, _, _, _, _, wpa, wfa⟩ i Bk hi hBk => ?_
  · ((cbv; try simp only [wf, exD, exL, exT, exB, exA, leLs, leL_d, leL_undef, leL_nils, leA_nils, deq_refl, deq_int, deq_bool, deq_str, and_true, true_and, AObj.iter.injEq, nc, nc']; try simp (disch := omega) only [w64, w32, wu8]); first | done | rfl | omega | (simp; done) | (simp; omega) | skip)
  (cbv; try simp only [wp, (show ∀ n : Nat, _ = n from fun n => wf.2.2.2.2.2.2.2.2.2.2.2.2.2.1 (Int.ofNat n)), (show _ = (0 : Nat) from wf.2.2.2.2.2.2.2.2.2.2.2.2.2.1 0), wpa, (show ∀ n : Nat, _ = n from fun n => wfa.2.2.2.2.2.2.2.2.2.2.2.2.2.1 (Int.ofNat n)), (show _ = (0 : Nat) from wfa.2.2.2.2.2.2.2.2.2.2.2.2.2.1 0), getL, takeL, dropL, TK.isAgg, reduceIte])
  refine ⟨fun e => ?_, fun e => ?_⟩
  · have e : i < m := (by (try simp only [wf, wfa, nc, nc', Int.toNat_natCast, bsz, ByteArray.size_append, List.length_cons, List.length_nil] at *); (try simp (disch := omega) only [w64, w32, wu8] at *); first | done | omega)
    have hl := ih i e
    (refine Later.mk ?_; cbv; try simp only [wp, (show ∀ n : Nat, _ = n from fun n => wf.2.2.2.2.2.2.2.2.2.2.2.2.2.1 (Int.ofNat n)), (show _ = (0 : Nat) from wf.2.2.2.2.2.2.2.2.2.2.2.2.2.1 0), wpa, (show ∀ n : Nat, _ = n from fun n => wfa.2.2.2.2.2.2.2.2.2.2.2.2.2.1 (Int.ofNat n)), (show _ = (0 : Nat) from wfa.2.2.2.2.2.2.2.2.2.2.2.2.2.1 0), getL, takeL, dropL, TK.isAgg, reduceIte])
    repeat' first | with_reducible refine And.intro ?_ ?_ | intro c9
    all_goals first | exact (by (try simp only [wf, wfa, nc, nc', Int.toNat_natCast, bsz, ByteArray.size_append, List.length_cons, List.length_nil] at *); (try simp (disch := omega) only [w64, w32, wu8] at *); first | done | omega) | trivial | skip
    all_goals
      refine hl.call ?_
      rintro _ rfl
      (cbv; try simp only [wp, (show ∀ n : Nat, _ = n from fun n => wf.2.2.2.2.2.2.2.2.2.2.2.2.2.1 (Int.ofNat n)), (show _ = (0 : Nat) from wf.2.2.2.2.2.2.2.2.2.2.2.2.2.1 0), wpa, (show ∀ n : Nat, _ = n from fun n => wfa.2.2.2.2.2.2.2.2.2.2.2.2.2.1 (Int.ofNat n)), (show _ = (0 : Nat) from wfa.2.2.2.2.2.2.2.2.2.2.2.2.2.1 0), getL, takeL, dropL, TK.isAgg, reduceIte])
      repeat' first | with_reducible refine And.intro ?_ ?_ | intro c9
      all_goals (refine Later.mk ?_; cbv; try simp only [wp, (show ∀ n : Nat, _ = n from fun n => wf.2.2.2.2.2.2.2.2.2.2.2.2.2.1 (Int.ofNat n)), (show _ = (0 : Nat) from wf.2.2.2.2.2.2.2.2.2.2.2.2.2.1 0), wpa, (show ∀ n : Nat, _ = n from fun n => wfa.2.2.2.2.2.2.2.2.2.2.2.2.2.1 (Int.ofNat n)), (show _ = (0 : Nat) from wfa.2.2.2.2.2.2.2.2.2.2.2.2.2.1 0), getL, takeL, dropL, TK.isAgg, reduceIte])
      refine hBk (i + 1) _ (by omega) (by omega) ?_
      ((cbv; try simp only [wf, wfa, exD, exL, exT, exB, exA, leLs, leL_d, leL_undef, leL_nils, leA_nils, deq_refl, deq_int, deq_bool, deq_str, and_true, true_and, AObj.iter.injEq, nc, nc']; try simp (disch := omega) only [w64, w32, wu8]); first | done | rfl | omega | (simp; done) | (simp; omega) | skip)
  · obtain rfl : i = m := (by (try simp only [wf, wfa, nc, nc', Int.toNat_natCast, bsz, ByteArray.size_append, List.length_cons, List.length_nil] at *); (try simp (disch := omega) only [w64, w32, wu8] at *); first | done | omega)
    (refine Later.mk ?_; cbv; try simp only [wp, (show ∀ n : Nat, _ = n from fun n => wf.2.2.2.2.2.2.2.2.2.2.2.2.2.1 (Int.ofNat n)), (show _ = (0 : Nat) from wf.2.2.2.2.2.2.2.2.2.2.2.2.2.1 0), wpa, (show ∀ n : Nat, _ = n from fun n => wfa.2.2.2.2.2.2.2.2.2.2.2.2.2.1 (Int.ofNat n)), (show _ = (0 : Nat) from wfa.2.2.2.2.2.2.2.2.2.2.2.2.2.1 0), getL, takeL, dropL, TK.isAgg, reduceIte])
    exact hR _
theorem EqTerm (t : Tm) : Small t → VFun (P ()) 15 [tm t, tm t] (fun r => r = .d (.bool true)) := by
  refine Tm.walk (P := fun t => Small t → VFun (P ()) 15 [tm t, tm t] (fun r => r = .d (.bool true))) ?_ t
  clear t
  intro op n s k C N W Q m ok K G hG e ih hs
  obtain ⟨h1, h2, h3⟩ := hs.kid
  rw [e]
  clear e hs
  have hc := EqLevels k C N W Q (by omega) (fun i hi => by have := h2 i hi; omega)
  have ht := EqTerms m G (by omega) (fun i hi => by have := ih i hi (h3 i hi); rwa [hG i hi] at this)
  refine vfunL (Tf := fun {_} _ => fzT [2, 3] (T ())) (fun {_} => tabOk.frz [2, 3]) [] 400 Tryz.func15 rfl (fun {_} => by kernel_rfl) rfl (Nat.le_of_ble_eq_true rfl) @fun ⟨_, _, _, _, _, _, _, _, _, _, _, _, _, _, _, _, _, _, _, _, _, _, _, _, _, _, _, _, _, _, _, _, _, _, _, _, _, _, wp, wf⟩ R hR => ?_
  cbv
  try simp only [wp, (show ∀ n : Nat, _ = n from fun n => wf.2.2.2.2.2.2.2.2.2.2.2.2.2.1 (Int.ofNat n)), getL, takeL, dropL, TK.isAgg, reduceIte]
  replace hR := fun H => hR (.d (.bool true)) H _ (.d (.bool true)) rfl
  repeat' first | (with_reducible refine And.intro ?_ ?_) | intro c9 | (exfalso; exact absurd rfl c9) | trivial | (refine Later.mk ?_; cbv; try simp only [wp, (show ∀ n : Nat, _ = n from fun n => wf.2.2.2.2.2.2.2.2.2.2.2.2.2.1 (Int.ofNat n)), (show _ = (0 : Nat) from wf.2.2.2.2.2.2.2.2.2.2.2.2.2.1 0), getL, takeL, dropL, TK.isAgg, reduceIte])
  refine hc.call ?_
  rintro _ rfl
  (cbv; try simp only [wp, (show ∀ n : Nat, _ = n from fun n => wf.2.2.2.2.2.2.2.2.2.2.2.2.2.1 (Int.ofNat n)), (show _ = (0 : Nat) from wf.2.2.2.2.2.2.2.2.2.2.2.2.2.1 0), getL, takeL, dropL, TK.isAgg, reduceIte])
  repeat' first | (with_reducible refine And.intro ?_ ?_) | intro c9 | (exfalso; exact absurd rfl c9) | trivial | (refine Later.mk ?_; cbv; try simp only [wp, (show ∀ n : Nat, _ = n from fun n => wf.2.2.2.2.2.2.2.2.2.2.2.2.2.1 (Int.ofNat n)), (show _ = (0 : Nat) from wf.2.2.2.2.2.2.2.2.2.2.2.2.2.1 0), getL, takeL, dropL, TK.isAgg, reduceIte])
  refine ht.call ?_
  rintro _ rfl
  (cbv; try simp only [wp, (show ∀ n : Nat, _ = n from fun n => wf.2.2.2.2.2.2.2.2.2.2.2.2.2.1 (Int.ofNat n)), (show _ = (0 : Nat) from wf.2.2.2.2.2.2.2.2.2.2.2.2.2.1 0), getL, takeL, dropL, TK.isAgg, reduceIte])
  repeat' first | (with_reducible refine And.intro ?_ ?_) | intro c9 | (exfalso; exact absurd rfl c9) | trivial | (refine Later.mk ?_; cbv; try simp only [wp, (show ∀ n : Nat, _ = n from fun n => wf.2.2.2.2.2.2.2.2.2.2.2.2.2.1 (Int.ofNat n)), (show _ = (0 : Nat) from wf.2.2.2.2.2.2.2.2.2.2.2.2.2.1 0), getL, takeL, dropL, TK.isAgg, reduceIte])
  all_goals exact hR _
end Go.VM
