/- Part of the proof: M5. -/
import Derived.Test.YtjfkhhenccochaaDoorGV5
/- Parts put in: how a list grows at its end. -/
namespace Go.VM
set_option linter.unusedVariables false
set_option linter.unusedSimpArgs false
def ext (f : Nat → Int) (m : Nat) (x : Int) : Nat → Int := fun j => if j = m then x else f j
theorem ext_eq (f : Nat → Int) (m : Nat) (x : Int) : ext f m x m = x := if_pos rfl
theorem ext_ne {f : Nat → Int} {m j : Nat} {x : Int} (h : j ≠ m) : ext f m x j = f j := if_neg h
theorem lst_ext (V P : Nat → Int) (m : Nat) (v p : Int) : lst (ext V m v) (ext P m p) (m + 1) = lst V P m ++ [(v, p)] := by
  show lst (ext V m v) (ext P m p) m ++ [(ext V m v m, ext P m p m)] = _
  rw [ext_eq, ext_eq, lst_congr (V := V) (P := P) (n := m) fun i hi => ⟨ext_ne (by omega), ext_ne (by omega)⟩]
theorem ext_row (V P : Nat → Int) (m : Nat) (v p : Int) (i j : Nat) (hi : i < m + 1) (hj : j < 2) : appF m (lvF V P) (rowF 2 [.int .i64 v, .int .i64 p]) i j = lvF (ext V m v) (ext P m p) i j :=
  app_row2 (g' := lvF (ext V m v) (ext P m p)) (fun i j h1 h2 => by
    match j, h2 with
    | 0, _ => simp only [lvF, ext_ne (show i ≠ m by omega)]
    | 1, _ => simp only [lvF, ext_ne (show i ≠ m by omega)]) (fun j hj => by
    match j, hj with
    | 0, _ => simp [lvF, ext_eq]
    | 1, _ => simp [lvF, ext_eq]) i j hi hj
theorem ext_row2 (V P : Nat → Int) (m : Nat) (v p v' p' : Int) (i j : Nat) (hi : i < m + 1 + 1) (hj : j < 2) :
    appF (m + 1) (appF m (lvF V P) (rowF 2 [.int .i64 v, .int .i64 p])) (rowF 2 [.int .i64 v', .int .i64 p']) i j = lvF (ext (ext V m v) (m + 1) v') (ext (ext P m p) (m + 1) p') i j := by
  rw [← ext_row _ _ _ _ _ i j hi hj]
  unfold appF
  by_cases h : i < m + 1
  · rw [if_pos h, if_pos h]
    exact ext_row V P m v p i j h hj
  · rw [if_neg h, if_neg h]
theorem putL_low {x : Pt} : ∀ {l r : List Pt}, (∀ y, y ∈ l → y.1 < x.1) → putL x (l ++ r) = l ++ putL x r
  | [], r, _ => rfl
  | y :: l, r, h => by
    have hy := h y (by simp)
    simp only [List.cons_append, putL]
    rw [if_neg (by omega), if_neg (by omega), putL_low fun z hz => h z (by simp [hz])]
theorem putL_end {x : Pt} {l : List Pt} (h : ∀ y, y ∈ l → y.1 < x.1) : putL x l = l ++ [x] := by
  have := putL_low (r := []) h
  simpa [putL] using this
theorem putL_snoc {x y : Pt} : ∀ {l : List Pt}, (∃ z, z ∈ l ∧ x.1 ≤ z.1) → (∀ z, z ∈ l → z.1 < y.1) → putL x (l ++ [y]) = putL x l ++ [y]
  | [], h, _ => by obtain ⟨z, hz, _⟩ := h; simp at hz
  | w :: l, h, hy => by
    simp only [List.cons_append, putL]
    split
    · rfl
    · split
      · rfl
      · rename_i h1 h2
        rw [List.cons_append, putL_snoc (l := l) ?_ fun z hz => hy z (by simp [hz])]
        obtain ⟨z, hz, hx⟩ := h
        rcases List.mem_cons.1 hz with rfl | hz
        · omega
        · exact ⟨z, hz, hx⟩
/-- what has been put so far -/
def PutS (V P : Nat → Int) (v p : Int) (i : Nat) (done : Bool) (l : List Pt) : Prop :=
  (done = false ∧ (∀ k, k < i → V k < v) ∧ l = lst V P i) ∨ (done = true ∧ (∃ k, k < i ∧ v ≤ V k) ∧ l = putL (v, p) (lst V P i))
theorem PutS.zero (V P : Nat → Int) (v p : Int) : PutS V P v p 0 false [] := .inl ⟨rfl, fun k hk => absurd hk (Nat.not_lt_zero _), rfl⟩
theorem PutS.lt {V P : Nat → Int} {v p : Int} {i : Nat} {l : List Pt} (h : PutS V P v p i false l) (hv : v < V i) : PutS V P v p (i + 1) true (l ++ [(v, p)] ++ [(V i, P i)]) := by
  rcases h with ⟨_, h1, rfl⟩ | ⟨h, _⟩
  · refine .inr ⟨rfl, ⟨i, by omega, by omega⟩, ?_⟩
    rw [lst, putL_low fun y hy => by obtain ⟨k, hk, rfl⟩ := lst_mem.1 hy; exact h1 k hk]
    simp [putL, hv]
  · cases h
theorem PutS.eq {V P : Nat → Int} {v p : Int} {i : Nat} {l : List Pt} (h : PutS V P v p i false l) (hv : v = V i) : PutS V P v p (i + 1) true (l ++ [(V i, max p (P i))]) := by
  rcases h with ⟨_, h1, rfl⟩ | ⟨h, _⟩
  · refine .inr ⟨rfl, ⟨i, by omega, by omega⟩, ?_⟩
    rw [lst, putL_low fun y hy => by obtain ⟨k, hk, rfl⟩ := lst_mem.1 hy; exact h1 k hk]
    simp [putL, hv]
  · cases h
theorem PutS.gt {V P : Nat → Int} {v p : Int} {i : Nat} {l : List Pt} (h : PutS V P v p i false l) (hv : V i < v) : PutS V P v p (i + 1) false (l ++ [(V i, P i)]) := by
  rcases h with ⟨_, h1, rfl⟩ | ⟨h, _⟩
  · refine .inl ⟨rfl, fun k hk => ?_, rfl⟩
    by_cases e : k = i
    · subst e; exact hv
    · exact h1 k (by omega)
  · cases h
theorem PutS.up {V P : Nat → Int} {v p : Int} {i n : Nat} {l : List Pt} (hasc : ∀ k l, k < l → l < n → V k < V l) (hi : i < n) (h : PutS V P v p i true l) : v < V i ∧ PutS V P v p (i + 1) true (l ++ [(V i, P i)]) := by
  rcases h with ⟨h, _⟩ | ⟨_, ⟨k, hk, hv⟩, rfl⟩
  · cases h
  · have := hasc k i hk hi
    refine ⟨by omega, .inr ⟨rfl, ⟨k, by omega, hv⟩, ?_⟩⟩
    rw [lst, putL_snoc ⟨_, lst_mem.2 ⟨k, hk, rfl⟩, hv⟩ fun y hy => by obtain ⟨j, hj, rfl⟩ := lst_mem.1 hy; exact hasc j i hj hi]
theorem PutS.fin {V P : Nat → Int} {v p : Int} {n : Nat} {d : Bool} {l : List Pt} (h : PutS V P v p n d l) : (d = true → l = putL (v, p) (lst V P n)) ∧ (d = false → l ++ [(v, p)] = putL (v, p) (lst V P n)) := by
  rcases h with ⟨rfl, h1, rfl⟩ | ⟨rfl, _, rfl⟩
  · exact ⟨fun h => (by cases h), fun _ => (putL_end fun y hy => by obtain ⟨k, hk, rfl⟩ := lst_mem.1 hy; exact h1 k hk).symm⟩
  · exact ⟨fun _ => rfl, fun h => (by cases h)⟩
end Go.VM
