/- Part of the proof: M5, M6, M8, M7. -/
import Derived.Test.YtjfkhhenccochaaDoorGV5
/- Parts put in: how a list grows at its end. -/
namespace Go.VM
set_option linter.unusedVariables false
set_option linter.unusedSimpArgs false
def ext (f : Nat → Int) (m : Nat) (x : Int) : Nat → Int := fun j => if j = m then x else f j
theorem ext_eq (f : Nat → Int) (m : Nat) (x : Int) : ext f m x m = x := if_pos rfl
theorem ext_ne {f : Nat → Int} {m j : Nat} {x : Int} (h : j ≠ m) : ext f m x j = f j := if_neg h
theorem lst_ext (V P : Nat → Int) (m : Nat) (v p : Int) : lst (ext V m v) (ext P m p) (m + 1) = lst V P m ++ [(v, p)] := by
  show lst (ext V m v) (ext P m p) m ++ [(ext V m v m, ext P m p m)] = _
  rw [ext_eq, ext_eq, lst_congr (V := V) (P := P) (n := m) fun i hi => ⟨ext_ne (by omega), ext_ne (by omega)⟩]
theorem ext_row (V P : Nat → Int) (m : Nat) (v p : Int) (i j : Nat) (hi : i < m + 1) (hj : j < 2) : appF m (lvF V P) (rowF 2 [.int .i64 v, .int .i64 p]) i j = lvF (ext V m v) (ext P m p) i j :=
  app_row2 (g' := lvF (ext V m v) (ext P m p)) (fun i j h1 h2 => by
    match j, h2 with
    | 0, _ => simp only [lvF, ext_ne (show i ≠ m by omega)]
    | 1, _ => simp only [lvF, ext_ne (show i ≠ m by omega)]) (fun j hj => by
    match j, hj with
    | 0, _ => simp [lvF, ext_eq]
    | 1, _ => simp [lvF, ext_eq]) i j hi hj
theorem ext_row2 (V P : Nat → Int) (m : Nat) (v p v' p' : Int) (i j : Nat) (hi : i < m + 1 + 1) (hj : j < 2) :
    appF (m + 1) (appF m (lvF V P) (rowF 2 [.int .i64 v, .int .i64 p])) (rowF 2 [.int .i64 v', .int .i64 p']) i j = lvF (ext (ext V m v) (m + 1) v') (ext (ext P m p) (m + 1) p') i j := by
  rw [← ext_row _ _ _ _ _ i j hi hj]
  unfold appF
  by_cases h : i < m + 1
  · rw [if_pos h, if_pos h]
    exact ext_row V P m v p i j h hj
  · rw [if_neg h, if_neg h]
theorem putL_low {x : Pt} : ∀ {l r : List Pt}, (∀ y, y ∈ l → y.1 < x.1) → putL x (l ++ r) = l ++ putL x r
  | [], r, _ => rfl
  | y :: l, r, h => by
    have hy := h y (by simp)
    simp only [List.cons_append, putL]
    rw [if_neg (by omega), if_neg (by omega), putL_low fun z hz => h z (by simp [hz])]
theorem putL_end {x : Pt} {l : List Pt} (h : ∀ y, y ∈ l → y.1 < x.1) : putL x l = l ++ [x] := by
  have := putL_low (r := []) h
  simpa [putL] using this
theorem putL_snoc {x y : Pt} : ∀ {l : List Pt}, (∃ z, z ∈ l ∧ x.1 ≤ z.1) → (∀ z, z ∈ l → z.1 < y.1) → putL x (l ++ [y]) = putL x l ++ [y]
  | [], h, _ => by obtain ⟨z, hz, _⟩ := h; simp at hz
  | w :: l, h, hy => by
    simp only [List.cons_append, putL]
    split
    · rfl
    · split
      · rfl
      · rename_i h1 h2
        rw [List.cons_append, putL_snoc (l := l) ?_ fun z hz => hy z (by simp [hz])]
        obtain ⟨z, hz, hx⟩ := h
        rcases List.mem_cons.1 hz with rfl | hz
        · omega
        · exact ⟨z, hz, hx⟩
/-- what has been put so far -/
def PutS (V P : Nat → Int) (v p : Int) (i : Nat) (done : Bool) (l : List Pt) : Prop :=
  (done = false ∧ (∀ k, k < i → V k < v) ∧ l = lst V P i) ∨ (done = true ∧ (∃ k, k < i ∧ v ≤ V k) ∧ l = putL (v, p) (lst V P i))
theorem PutS.zero (V P : Nat → Int) (v p : Int) : PutS V P v p 0 false [] := .inl ⟨rfl, fun k hk => absurd hk (Nat.not_lt_zero _), rfl⟩
theorem PutS.lt {V P : Nat → Int} {v p : Int} {i : Nat} {l : List Pt} (h : PutS V P v p i false l) (hv : v < V i) : PutS V P v p (i + 1) true (l ++ [(v, p)] ++ [(V i, P i)]) := by
  rcases h with ⟨_, h1, rfl⟩ | ⟨h, _⟩
  · refine .inr ⟨rfl, ⟨i, by omega, by omega⟩, ?_⟩
    rw [lst, putL_low fun y hy => by obtain ⟨k, hk, rfl⟩ := lst_mem.1 hy; exact h1 k hk]
    simp [putL, hv]
  · cases h
theorem PutS.eq {V P : Nat → Int} {v p : Int} {i : Nat} {l : List Pt} (h : PutS V P v p i false l) (hv : v = V i) : PutS V P v p (i + 1) true (l ++ [(V i, max p (P i))]) := by
  rcases h with ⟨_, h1, rfl⟩ | ⟨h, _⟩
  · refine .inr ⟨rfl, ⟨i, by omega, by omega⟩, ?_⟩
    rw [lst, putL_low fun y hy => by obtain ⟨k, hk, rfl⟩ := lst_mem.1 hy; exact h1 k hk]
    simp [putL, hv]
  · cases h
theorem PutS.gt {V P : Nat → Int} {v p : Int} {i : Nat} {l : List Pt} (h : PutS V P v p i false l) (hv : V i < v) : PutS V P v p (i + 1) false (l ++ [(V i, P i)]) := by
  rcases h with ⟨_, h1, rfl⟩ | ⟨h, _⟩
  · refine .inl ⟨rfl, fun k hk => ?_, rfl⟩
    by_cases e : k = i
    · subst e; exact hv
    · exact h1 k (by omega)
  · cases h
theorem PutS.up {V P : Nat → Int} {v p : Int} {i n : Nat} {l : List Pt} (hasc : ∀ k l, k < l → l < n → V k < V l) (hi : i < n) (h : PutS V P v p i true l) : v < V i ∧ PutS V P v p (i + 1) true (l ++ [(V i, P i)]) := by
  rcases h with ⟨h, _⟩ | ⟨_, ⟨k, hk, hv⟩, rfl⟩
  · cases h
  · have := hasc k i hk hi
    refine ⟨by omega, .inr ⟨rfl, ⟨k, by omega, hv⟩, ?_⟩⟩
    rw [lst, putL_snoc ⟨_, lst_mem.2 ⟨k, hk, rfl⟩, hv⟩ fun y hy => by obtain ⟨j, hj, rfl⟩ := lst_mem.1 hy; exact hasc j i hj hi]
theorem PutS.fin {V P : Nat → Int} {v p : Int} {n : Nat} {d : Bool} {l : List Pt} (h : PutS V P v p n d l) : (d = true → l = putL (v, p) (lst V P n)) ∧ (d = false → l ++ [(v, p)] = putL (v, p) (lst V P n)) := by
  rcases h with ⟨rfl, h1, rfl⟩ | ⟨rfl, _, rfl⟩
  · exact ⟨fun h => (by cases h), fun _ => (putL_end fun y hy => by obtain ⟨k, hk, rfl⟩ := lst_mem.1 hy; exact h1 k hk).symm⟩
  · exact ⟨fun _ => rfl, fun h => (by cases h)⟩
end Go.VM

/- Levels put in: the parts and the number of what comes out. -/
namespace Go.VM
set_option linter.unusedVariables false
set_option linter.unusedSimpArgs false
/-- the parts of what is put in for one part -/
def big1 (m : Nat) (B : Nat → List Pt) (x : Pt) : List Pt := if x.1 < m then (B x.1.toNat).map fun y => (y.1, y.2 + x.2) else [x]
def big (m : Nat) (B : Nat → List Pt) : List Pt → List Pt
  | [] => []
  | x :: l => big1 m B x ++ big m B l
theorem big_append (m : Nat) (B : Nat → List Pt) : ∀ a b, big m B (a ++ b) = big m B a ++ big m B b
  | [], b => rfl
  | x :: a, b => by simp only [List.cons_append, big, big_append m B a b, List.append_assoc]
theorem big_snoc (m : Nat) (B : Nat → List Pt) (l : List Pt) (x : Pt) : big m B (l ++ [x]) = big m B l ++ big1 m B x := by
  rw [big_append]; simp [big]
theorem big_perm (m : Nat) (B : Nat → List Pt) {a b : List Pt} (h : a.Perm b) : (big m B a).Perm (big m B b) := by
  induction h with
  | nil => exact .refl _
  | cons x _ ih => exact ih.append_left _
  | swap x y l =>
    simp only [big, ← List.append_assoc]
    exact List.perm_append_comm.append_right _
  | trans _ _ h1 h2 => exact h1.trans h2
/-- the number of what comes out -/
def sc (m : Nat) (C : Nat → Int) (c : Int) : List Pt → Int
  | [] => c
  | x :: l => if x.1 < m then max (C x.1.toNat + x.2) (sc m C c l) else sc m C c l
theorem sc_perm (m : Nat) (C : Nat → Int) (c : Int) {a b : List Pt} (h : a.Perm b) : sc m C c a = sc m C c b := by
  induction h with
  | nil => rfl
  | cons x _ ih => simp only [sc, ih]
  | swap x y l => simp only [sc]; split <;> split <;> omega
  | trans _ _ h1 h2 => exact h1.trans h2
theorem sc_snoc (m : Nat) (C : Nat → Int) (c : Int) (l : List Pt) (x : Pt) : sc m C c (l ++ [x]) = if x.1 < m then max (sc m C c l) (C x.1.toNat + x.2) else sc m C c l := by
  rw [sc_perm m C c (b := x :: l) List.perm_append_comm]
  simp only [sc]; split <;> omega
theorem sc_ge (m : Nat) (C : Nat → Int) (c : Int) : ∀ l, c ≤ sc m C c l
  | [] => Int.le_refl _
  | x :: l => by have := sc_ge m C c l; simp only [sc]; split <;> omega
theorem mx_mem : ∀ {l : List Pt} {x : Pt}, x ∈ l → ∃ y, mx l x.1 = some y ∧ x.2 ≤ y
  | [], x, h => by cases h
  | z :: l, x, h => by
    simp only [mx]
    rcases List.mem_cons.1 h with rfl | h
    · rw [if_pos rfl]
      cases mx l x.1 with
      | none => exact ⟨_, rfl, Int.le_refl _⟩
      | some y => exact ⟨_, rfl, by omega⟩
    · obtain ⟨y, e, hy⟩ := mx_mem h
      rw [e]
      split
      · exact ⟨_, rfl, by omega⟩
      · exact ⟨_, rfl, hy⟩
theorem mx_most : ∀ {l : List Pt} {v y : Int}, mx l v = some y → y ≤ mostL l
  | [], v, y, h => by cases h
  | z :: l, v, y, h => by
    simp only [mx] at h
    simp only [mostL]
    cases e : mx l v with
    | none =>
      rw [e] at h
      split at h
      · have h := Option.some.inj h; omega
      · cases h
    | some w =>
      have := mx_most e
      rw [e] at h
      split at h
      · have h := Option.some.inj h; omega
      · have h := Option.some.inj h; omega
/-- the number that the program keeps: as sc, or that of a part that stays -/
def ScOk (m : Nat) (C : Nat → Int) (c : Int) (l : List Pt) (c1 : Int) : Prop := c1 = sc m C c l ∨ (sc m C c l ≤ c1 ∧ ∃ x, x ∈ l ∧ ¬ x.1 < m ∧ x.2 = c1)
theorem ScOk.nil (m : Nat) (C : Nat → Int) (c : Int) : ScOk m C c [] c := .inl rfl
theorem ScOk.put {m : Nat} {C : Nat → Int} {c : Int} {l : List Pt} {c1 : Int} {x : Pt} (h : ScOk m C c l c1) (hx : x.1 < m) : ScOk m C c (l ++ [x]) (max c1 (C x.1.toNat + x.2)) := by
  unfold ScOk
  rw [sc_snoc, if_pos hx]
  rcases h with rfl | ⟨h1, y, h2, h3, rfl⟩
  · exact .inl rfl
  · by_cases e : C x.1.toNat + x.2 ≤ y.2
    · exact .inr ⟨by omega, y, List.mem_append_left _ h2, h3, by omega⟩
    · exact .inl (by omega)
theorem ScOk.stay {m : Nat} {C : Nat → Int} {c : Int} {l : List Pt} {c1 : Int} {x : Pt} (h : ScOk m C c l c1) (hx : ¬ x.1 < m) : ScOk m C c (l ++ [x]) (max c1 x.2) := by
  unfold ScOk
  rw [sc_snoc, if_neg hx]
  by_cases e : x.2 ≤ c1
  · rw [show max c1 x.2 = c1 by omega]
    rcases h with rfl | ⟨h1, y, h2, h3, h4⟩
    · exact .inl rfl
    · exact .inr ⟨h1, y, List.mem_append_left _ h2, h3, h4⟩
  · refine .inr ⟨?_, x, by simp, hx, by omega⟩
    rcases h with rfl | ⟨h1, _⟩ <;> omega
theorem big1_mem {m : Nat} {B : Nat → List Pt} : ∀ {l : List Pt} {x : Pt}, x ∈ l → ¬ x.1 < m → x ∈ big m B l
  | [], x, h, _ => by cases h
  | z :: l, x, h, hx => by
    rcases List.mem_cons.1 h with rfl | h
    · exact List.mem_append_left _ (by unfold big1; rw [if_neg hx]; simp)
    · exact List.mem_append_right _ (big1_mem h hx)
theorem ScOk.canon {m : Nat} {C : Nat → Int} {B : Nat → List Pt} {c : Int} {l q : List Pt} {c1 : Int} (h : ScOk m C c l c1) (hq : ∀ v, mx q v = mx (big m B l) v) : canonL c1 q = canonL (sc m C c l) q := by
  rcases h with rfl | ⟨h1, x, h2, h3, h4⟩
  · rfl
  · obtain ⟨y, e, hy⟩ := mx_mem (big1_mem (B := B) h2 h3)
    rw [← hq] at e
    have := mx_most e
    unfold canonL
    rw [if_pos (show c1 ≤ mostL q by omega), if_pos (show sc m C c l ≤ mostL q by omega)]
end Go.VM

/- What the assignments of LevelTells tell. -/
namespace Go.VM
set_option linter.unusedVariables false
set_option linter.unusedSimpArgs false

/-- the first m numbers are in ascending order -/
def ascF (U : Nat → Int) (m : Nat) : Prop := ∀ k l, k < l → l < m → U k < U l
theorem ascF.dist {U : Nat → Int} {m : Nat} (h : ascF U m) : dist U m := fun i k a b => by have := h k i a b; omega
theorem ascF.le {U : Nat → Int} {m j : Nat} (h : ascF U m) (hj : j < m) : U j ≤ U (m - 1) := by
  by_cases e : j = m - 1
  · rw [e]; exact Int.le_refl _
  · have := h j (m - 1) (by omega) (by omega); omega
/-- U are the first n numbers V, in ascending order -/
def VarsP (V : Nat → Int) (n : Nat) (U : Nat → Int) (m : Nat) : Prop := ascF U m ∧ (∀ i, i < n → ∃ j, j < m ∧ U j = V i) ∧ (∀ j, j < m → ∃ i, i < n ∧ V i = U j)
theorem mem_putL {x y : Pt} (hx : x.2 = 0) : ∀ {l : List Pt}, (∀ z, z ∈ l → z.2 = 0) → (y ∈ putL x l ↔ y = x ∨ y ∈ l)
  | [], _ => by simp [putL]
  | z :: r, h => by
    unfold putL
    have hz := h z List.mem_cons_self
    have ih := mem_putL (y := y) hx (l := r) fun w hw => h w (List.mem_cons_of_mem _ hw)
    split
    · simp
    · split
      · rename_i h1 h2
        have e : z = x := Prod.ext (by omega) (by omega)
        subst e
        have e2 : (z.1, max z.2 z.2) = z := Prod.ext rfl (by simp)
        simp_all
      · simp only [List.mem_cons, ih]
        constructor
        · rintro (h | h | h) <;> simp_all
        · rintro (h | h | h) <;> simp_all
theorem putL_zero {x : Pt} (hx : x.2 = 0) {l : List Pt} (h : ∀ z, z ∈ l → z.2 = 0) : ∀ z, z ∈ putL x l → z.2 = 0 := fun z hz => by
  rcases (mem_putL hx h).1 hz with rfl | h2
  · exact hx
  · exact h z h2
theorem mem_putsL {y : Pt} : ∀ {r l : List Pt}, (∀ z, z ∈ l → z.2 = 0) → (∀ z, z ∈ r → z.2 = 0) → (y ∈ putsL l r ↔ y ∈ l ∨ y ∈ r)
  | [], l, _, _ => by simp [putsL]
  | x :: r, l, h, hr => by
    have hx := hr x List.mem_cons_self
    have hr' : ∀ z, z ∈ r → z.2 = 0 := fun z hz => hr z (List.mem_cons_of_mem _ hz)
    unfold putsL
    rw [mem_putsL (putL_zero hx h) hr', mem_putL hx h]
    simp only [List.mem_cons]
    constructor
    · rintro ((h | h) | h) <;> simp_all
    · rintro (h | h | h) <;> simp_all
/-- the variables of parts that are put into order -/
theorem VarsP.puts {V U Z : Nat → Int} {n m : Nat} (h : lst U Z m = putsL [] (lst V (fun _ => 0) n)) : VarsP V n U m := by
  have h0 : ∀ z, z ∈ lst V (fun _ => 0) n → z.2 = 0 := fun z hz => by
    obtain ⟨i, _, rfl⟩ := lst_mem.1 hz; rfl
  have hm : ∀ y, y ∈ lst U Z m ↔ y ∈ lst V (fun _ => 0) n := fun y => by
    rw [h, mem_putsL (fun z hz => by cases hz) h0]
    simp
  have ha : asc (lst U Z m) := by rw [h]; exact putsL_asc (by simp [asc])
  refine ⟨asc_dist ha, fun i hi => ?_, fun j hj => ?_⟩
  · obtain ⟨j, hj, e⟩ := lst_mem.1 ((hm (V i, 0)).2 (lst_mem.2 ⟨i, hi, rfl⟩))
    exact ⟨j, hj, (congrArg Prod.fst e).symm⟩
  · obtain ⟨i, hi, e⟩ := lst_mem.1 ((hm (U j, Z j)).1 (lst_mem.2 ⟨j, hj, rfl⟩))
    exact ⟨i, hi, (congrArg Prod.fst e).symm⟩
/-- the list of numbers, as it stands after i choices -/
def pickN (U w : Nat → Int) (i : Nat) : Nat → Int := fun k => pickF U w i k
theorem pickN_zero (U w : Nat → Int) (k : Nat) : pickN U w 0 k = 0 := rfl
theorem pickN_succ (U w : Nat → Int) (i : Nat) (hU : 0 ≤ U i) (k : Nat) : pickN U w (i + 1) k = if k = (U i).toNat then w i else pickN U w i k := by
  unfold pickN
  rw [pickF]
  by_cases e : (k : Int) = U i
  · rw [if_pos e, if_pos (by omega)]
  · rw [if_neg e, if_neg (by omega)]
/-- what a level's variable reads there -/
theorem pick_at {V U w : Nat → Int} {n m i top k : Nat} (h : VarsP V n U m) (hi : i < n) (h0 : ∀ i, i < n → 0 ≤ V i) (ht : (top : Int) = if m = 0 then 0 else U (m - 1) + 1) (hw : ∀ j, 0 ≤ w j) : atF top (pickN U w k) (V i) = pickF U w k (V i) := by
  obtain ⟨j, hj, e⟩ := h.2.1 i hi
  have := h.1.le hj
  rw [if_neg (by omega)] at ht
  have h1 := h0 i hi
  have h2 := pickF_ge (U := U) hw k (V i)
  unfold atF
  rw [if_pos (by omega)]
  unfold pickN
  rw [Int.toNat_of_nonneg h1]
  omega
/-- the variables of a level among those of two -/
theorem VarsP.sub {V U V1 : Nat → Int} {n m n1 : Nat} (h : VarsP V n U m) (hs : ∀ i, i < n1 → ∃ j, j < n ∧ V j = V1 i) : ∀ i, i < n1 → ∃ j, j < m ∧ U j = V1 i := fun i hi => by
  obtain ⟨j, hj, e⟩ := hs i hi
  obtain ⟨k, hk, e2⟩ := h.2.1 j hj
  exact ⟨k, hk, e2.trans e⟩
theorem pick_at2 {V1 U w : Nat → Int} {n1 m i top k : Nat} (ha : ascF U m) (hs : ∀ i, i < n1 → ∃ j, j < m ∧ U j = V1 i) (hi : i < n1) (h0 : 0 ≤ V1 i) (ht : (top : Int) = if m = 0 then 0 else U (m - 1) + 1) (hw : ∀ j, 0 ≤ w j) : atF top (pickN U w k) (V1 i) = pickF U w k (V1 i) := by
  obtain ⟨j, hj, e⟩ := hs i hi
  have := ha.le hj
  rw [if_neg (by omega)] at ht
  have h2 := pickF_ge (U := U) hw k (V1 i)
  unfold atF
  rw [if_pos (by omega)]
  unfold pickN
  rw [Int.toNat_of_nonneg h0]
  omega
/-- the value at an assignment -/
theorem eval_pick {V1 P1 U w : Nat → Int} {c : Int} {n1 m top k : Nat} (ha : ascF U m) (hs : ∀ i, i < n1 → ∃ j, j < m ∧ U j = V1 i) (h0 : ∀ i, i < n1 → 0 ≤ V1 i) (ht : (top : Int) = if m = 0 then 0 else U (m - 1) + 1) (hw : ∀ j, 0 ≤ w j ∧ w j ≤ 2000000000) :
    evalF V1 P1 top (pickN U w k) c n1 = some (evV V1 P1 (pickF U w k) c n1) :=
  evalF_some V1 P1 top _ c _ n1 fun i hi => ⟨pick_at2 ha hs hi (h0 i hi) ht fun j => (hw j).1, by have := pickF_le (U := U) (b := 2000000000) (by decide) (fun j => (hw j).2) k (V1 i); omega⟩
end Go.VM

/- The lattice of levels, on lists of parts. -/
namespace Go.VM
set_option linter.unusedVariables false
set_option linter.unusedSimpArgs false
def LeqQ (c : Int) (l : List Pt) (c' : Int) (l' : List Pt) : Prop := (∀ x, x ∈ l → ∃ y, y ∈ l' ∧ y.1 = x.1 ∧ x.2 ≤ y.2) ∧ c ≤ max c' (mostL l')
theorem LeqP_Q {c c' : Int} {n n' : Nat} {V P V' P' : Nat → Int} : LeqP c n V P c' n' V' P' ↔ LeqQ c (lst V P n) c' (lst V' P' n') := by
  unfold LeqP LeqQ
  rw [mostF_lst]
  refine and_congr ⟨fun h x hx => ?_, fun h i hi => ?_⟩ Iff.rfl
  · obtain ⟨i, hi, rfl⟩ := lst_mem.1 hx
    obtain ⟨k, h1, h2, h3⟩ := h i hi
    exact ⟨_, lst_mem.2 ⟨k, h1, rfl⟩, h2, h3⟩
  · obtain ⟨y, h1, h2, h3⟩ := h _ (lst_mem.2 ⟨i, hi, rfl⟩)
    obtain ⟨k, hk, rfl⟩ := lst_mem.1 h1
    exact ⟨k, hk, h2, h3⟩
theorem most_in {l : List Pt} {x : Pt} (h : x ∈ l) : x.2 ≤ mostL l := (mostL_le (mostL_ge l)).1 (Int.le_refl _) x h
theorem leqQ_refl (c : Int) (l : List Pt) : LeqQ c l c l := ⟨fun x hx => ⟨x, hx, rfl, Int.le_refl _⟩, by omega⟩
theorem leqQ_most {l l' : List Pt} (h : ∀ x, x ∈ l → ∃ y, y ∈ l' ∧ y.1 = x.1 ∧ x.2 ≤ y.2) : mostL l ≤ mostL l' := (mostL_le (mostL_ge l')).2 fun x hx => by
  obtain ⟨y, h1, _, h2⟩ := h x hx
  have := most_in h1
  omega
theorem LeqQ.trans {c c' c'' : Int} {l l' l'' : List Pt} (h : LeqQ c l c' l') (h' : LeqQ c' l' c'' l'') : LeqQ c l c'' l'' := by
  refine ⟨fun x hx => ?_, ?_⟩
  · obtain ⟨y, h1, h2, h3⟩ := h.1 x hx
    obtain ⟨z, h4, h5, h6⟩ := h'.1 y h1
    exact ⟨z, h4, h5.trans h2, by omega⟩
  · have := leqQ_most h'.1
    have := h.2
    have := h'.2
    omega
theorem mx_in : ∀ {l : List Pt} {v p : Int}, mx l v = some p → (v, p) ∈ l
  | [], v, p, h => by cases h
  | z :: l, v, p, h => by
    simp only [mx] at h
    by_cases e : z.1 = v
    · rw [if_pos e] at h
      cases e2 : mx l v with
      | none =>
        rw [e2] at h
        have h := Option.some.inj h
        exact List.mem_cons.2 (.inl (by rw [← e, ← h]))
      | some w =>
        rw [e2] at h
        have h := Option.some.inj h
        by_cases e3 : w ≤ z.2
        · exact List.mem_cons.2 (.inl (by rw [← e]; exact Prod.ext rfl (by dsimp only; omega)))
        · exact List.mem_cons_of_mem _ (mx_in (by rw [e2]; exact congrArg some (by omega)))
    · rw [if_neg e] at h
      exact List.mem_cons_of_mem _ (mx_in h)
/-- the number of a canonical form -/
def cq (c : Int) (q : List Pt) : Int := if c ≤ mostL q then 0 else c
theorem leq_max {c d : Int} {l q : List Pt} {g : Int → Option Int} (hq : ∀ v, mx q v = omax (mx l v) (g v)) (hd : c ≤ d) : LeqQ c l (cq d q) q := by
  refine ⟨fun x hx => ?_, by unfold cq; split <;> omega⟩
  obtain ⟨y, e, hy⟩ := mx_mem hx
  have := hq x.1
  rw [e] at this
  cases e2 : g x.1 with
  | none => rw [e2] at this; exact ⟨_, mx_in this, rfl, hy⟩
  | some w => rw [e2] at this; exact ⟨_, mx_in this, rfl, by dsimp only; omega⟩
theorem leq_lub {c c' c'' : Int} {l l' l'' q : List Pt} (hq : ∀ v, mx q v = omax (mx l v) (mx l' v)) (h0 : 0 ≤ c'') (h : LeqQ c l c'' l'') (h' : LeqQ c' l' c'' l'') : LeqQ (cq (max c c') q) q c'' l'' := by
  refine ⟨fun x hx => ?_, ?_⟩
  · obtain ⟨y, e, hy⟩ := mx_mem hx
    rw [hq] at e
    have : (mx l x.1 = some y) ∨ (mx l' x.1 = some y) := by
      obtain ⟨o1, e1⟩ : ∃ o, o = mx l x.1 := ⟨_, rfl⟩
      obtain ⟨o2, e2⟩ : ∃ o, o = mx l' x.1 := ⟨_, rfl⟩
      rw [← e1, ← e2] at e ⊢
      match o1, o2, e with
      | none, some b, e => exact .inr e
      | some a, none, e => exact .inl e
      | some a, some b, e =>
        have e := Option.some.inj e
        by_cases e3 : b ≤ a
        · exact .inl (congrArg some (by omega))
        · exact .inr (congrArg some (by omega))
    rcases this with e | e
    · obtain ⟨z, h1, h2, h3⟩ := h.1 _ (mx_in e)
      exact ⟨z, h1, h2, by dsimp only at h3; omega⟩
    · obtain ⟨z, h1, h2, h3⟩ := h'.1 _ (mx_in e)
      exact ⟨z, h1, h2, by dsimp only at h3; omega⟩
  · have := h.2
    have := h'.2
    unfold cq
    split <;> omega
theorem leq_suc {c : Int} {l q : List Pt} (hq : ∀ v, mx q v = (mx l v).map (· + 1)) : LeqQ c l (cq (c + 1) q) q := by
  refine ⟨fun x hx => ?_, by unfold cq; split <;> omega⟩
  obtain ⟨y, e, hy⟩ := mx_mem hx
  have := hq x.1
  rw [e] at this
  exact ⟨_, mx_in this, rfl, by dsimp only; omega⟩
theorem suc_not {c : Int} {l q : List Pt} (hc : 0 ≤ c) (hq : ∀ v, mx q v = (mx l v).map (· + 1)) : ¬ LeqQ (cq (c + 1) q) q c l := by
  intro h
  cases l with
  | nil =>
    have hn : q = [] := by
      cases q with
      | nil => rfl
      | cons x q =>
        obtain ⟨y, e, _⟩ := mx_mem (List.mem_cons_self (a := x) (l := q))
        rw [hq] at e
        cases e
    subst hn
    have h5 : cq (c + 1) [] = c + 1 := if_neg (show ¬ c + 1 ≤ mostL [] from by show ¬ c + 1 ≤ -1; omega)
    have h6 := h.2
    rw [h5] at h6
    have h7 : c + 1 ≤ max c (-1) := h6
    omega
  | cons x l =>
    obtain ⟨p, e, _⟩ := mx_mem (List.mem_cons_self (a := x) (l := l))
    have h1 := hq x.1
    rw [e] at h1
    obtain ⟨z, h2, h3, h4⟩ := h.1 _ (mx_in h1)
    obtain ⟨p', e', h5⟩ := mx_mem h2
    dsimp only at h3 h4
    rw [h3, e] at e'
    have := Option.some.inj e'
    omega
end Go.VM
