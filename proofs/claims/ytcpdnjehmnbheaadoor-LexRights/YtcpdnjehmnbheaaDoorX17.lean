/- Contracts of the functions that the law reaches: part of the proof (X17). -/
import Derived.Test.YtcpdnjehmnbheaaDoorX15
namespace Go.VM
open Go.Proofs Go
set_option maxRecDepth 100000
set_option linter.unusedVariables false
set_option linter.unusedSimpArgs false

/-! ### Where a piece of a source is read as the source is -/
theorem spanEnd_eq (p : Nat → Bool) (n : Nat) : ∀ (m i e : Nat), n - i = m → i ≤ e → e ≤ n → (∀ j, i ≤ j → j < e → p j = true) → (e < n → p e = false) → spanEnd p n i = e
  | 0, i, e, hm, h1, h2, h3, h4 => by rw [spanEnd]; split <;> omega
  | m + 1, i, e, hm, h1, h2, h3, h4 => by
    rw [spanEnd, if_pos (by omega)]
    by_cases he : i = e
    · subst he
      rw [h4 (by omega)]
      rfl
    · rw [if_pos (h3 i (by omega) (by omega))]
      exact spanEnd_eq p n m (i + 1) e (by omega) (by omega) h2 (fun j a b => h3 j (by omega) b) h4
theorem spanEnd_stop (p : Nat → Bool) (n : Nat) : ∀ (m i : Nat), n - i = m → spanEnd p n i < n → p (spanEnd p n i) = false
  | 0, i, hm, h => by rw [spanEnd] at h; split at h <;> omega
  | m + 1, i, hm, h => by
    rw [spanEnd, if_pos (by omega)] at h ⊢
    split
    · rename_i hp
      rw [if_pos hp] at h
      exact spanEnd_stop p n m (i + 1) (by omega) h
    · rename_i hp; simpa using hp

structure Sub (s u : ByteArray) (o : Nat) : Prop where
  le : o + u.size ≤ s.size
  bt : ∀ i : Nat, i < u.size → btF u i = btF s ((o + i : Nat) : Int)
  ext : ∀ i j, i ≤ j → j ≤ u.size → u.extract i j = s.extract (o + i) (o + j)

theorem sub_extract (s : ByteArray) (a b : Nat) (h : a ≤ b) (hb : b ≤ s.size) : Sub s (s.extract a b) a := by
  have hz : (s.extract a b).size = b - a := by simp [ByteArray.size_extract]; omega
  refine ⟨by omega, fun i hi => ext_bt2 s a b i hb (by omega), fun i j h1 h2 => ?_⟩
  rw [ByteArray.extract_extract]
  congr 1
  omega
theorem sub_of_ext {s u : ByteArray} {o : Nat} (h1 : o + u.size ≤ s.size) (h2 : s.extract o (o + u.size) = u) : Sub s u o := by
  have := sub_extract s o (o + u.size) (by omega) h1
  rw [h2] at this
  exact this

section
variable {s u : ByteArray} {o : Nat} (h : Sub s u o)
include h

theorem Sub.two (k : Nat) (hk : k + 1 < u.size) (x y : Int) : twoB u k x y = twoB s (o + k) x y := by
  have h1 := h.bt k (by omega)
  have h2 := h.bt (k + 1) hk
  have e1 : ((k : Int) + 1) = ((k + 1 : Nat) : Int) := by omega
  have e2 : (((o + k : Nat) : Int) + 1) = ((o + (k + 1) : Nat) : Int) := by omega
  have := h.le
  simp only [twoB, e1, e2, h1, h2, hk, show o + k + 1 < s.size by omega, decide_true]
theorem Sub.at' (k : Nat) (hk : k < u.size) : atI u k = atI s ((o + k : Nat) : Int) := by
  have := h.le
  simp only [atI]
  rw [if_pos (by omega), if_pos (by omega), h.bt k hk]

/-- the end of a line comment -/
theorem Sub.line (k : Nat) (hk : k < u.size) : (lineE s (o + k) ≤ o + u.size → lineE u k = lineE s (o + k) - o) ∧ ((o + u.size = s.size ∨ btF s ((o + u.size : Nat) : Int) = 10) → lineE s (o + k) = o + lineE u k) := by
  have hl := h.le
  have b1 := spanEnd_bounds (fun i => btF s i != 10) s.size _ (o + k) rfl (by omega)
  have b2 := spanEnd_bounds (fun i => btF u i != 10) u.size _ k rfl (by omega)
  have a1 := spanEnd_all (fun i => btF s i != 10) s.size _ (o + k) rfl
  have a2 := spanEnd_all (fun i => btF u i != 10) u.size _ k rfl
  have t1 := spanEnd_stop (fun i => btF s i != 10) s.size _ (o + k) rfl
  have t2 := spanEnd_stop (fun i => btF u i != 10) u.size _ k rfl
  constructor
  · intro hle
    refine spanEnd_eq _ _ _ k _ rfl ?_ ?_ ?_ ?_
    · unfold lineE; omega
    · unfold lineE at hle ⊢; omega
    · intro j h1 h2
      unfold lineE at h2 hle
      have := a1 (o + j) (by omega) (by omega)
      rw [h.bt j (by omega)]
      exact this
    · intro h2
      unfold lineE at h2 hle ⊢
      have := t1 (by omega)
      rw [h.bt _ h2, show o + (spanEnd (fun i => btF s i != 10) s.size (o + k) - o) = spanEnd (fun i => btF s i != 10) s.size (o + k) by omega]
      exact this
  · intro hst
    refine spanEnd_eq _ _ _ (o + k) _ rfl ?_ ?_ ?_ ?_
    · unfold lineE; omega
    · unfold lineE; omega
    · intro j h1 h2
      unfold lineE at h2
      obtain ⟨j', rfl⟩ : ∃ j', j = o + j' := ⟨j - o, by omega⟩
      have := a2 j' (by omega) (by omega)
      rw [← h.bt j' (by omega)]
      exact this
    · intro h2
      unfold lineE at h2 ⊢
      by_cases hlt : spanEnd (fun i => btF u i != 10) u.size k < u.size
      · have := t2 hlt
        rw [← h.bt _ hlt]
        exact this
      · have e : spanEnd (fun i => btF u i != 10) u.size k = u.size := by omega
        rw [e] at h2 ⊢
        rcases hst with hst | hst
        · omega
        · rw [bne_eq_false_iff_eq]; exact hst

/-- the end of a block comment -/
theorem Sub.blk : ∀ (m i d : Nat), u.size - i = m → (∀ e : Nat, blkE s (o + i) d = e → e ≤ o + u.size → blkE u i d = ((e - o : Nat) : Int)) ∧ (0 ≤ blkE u i d → blkE s (o + i) d = o + blkE u i d) := by
  have hl := h.le
  intro m
  induction m using Nat.strongRecOn with
  | ind m ih =>
    intro i d hm
    by_cases hi : i + 1 < u.size
    · have hu := blkE.eq_1 u i d
      have hs := blkE.eq_1 s (o + i) d
      rw [if_pos hi, h.two i hi, h.two i hi] at hu
      rw [if_pos (by omega)] at hs
      cases c1 : twoB s (o + i) 123 45 with
      | true =>
        simp only [c1, if_true] at hu hs
        have := ih (u.size - (i + 2)) (by omega) (i + 2) (d + 1) rfl
        rw [show o + (i + 2) = o + i + 2 by omega] at this
        rw [hu, hs]
        exact this
      | false =>
        cases c2 : twoB s (o + i) 45 125 with
        | true =>
          simp only [c1, c2, if_true, Bool.false_eq_true, if_false] at hu hs
          by_cases hd : d ≤ 1
          · rw [if_pos hd] at hu hs
            rw [hu, hs]
            refine ⟨fun e he hle => ?_, fun _ => ?_⟩ <;> omega
          · rw [if_neg hd] at hu hs
            have := ih (u.size - (i + 2)) (by omega) (i + 2) (d - 1) rfl
            rw [show o + (i + 2) = o + i + 2 by omega] at this
            rw [hu, hs]
            exact this
        | false =>
          simp only [c1, c2, Bool.false_eq_true, if_false] at hu hs
          have := ih (u.size - (i + 1)) (by omega) (i + 1) d rfl
          rw [show o + (i + 1) = o + i + 1 by omega] at this
          rw [hu, hs]
          exact this
    · have hu := blkE.eq_1 u i d
      rw [if_neg hi] at hu
      rw [hu]
      refine ⟨fun e he hle => ?_, fun hc => absurd hc (by decide)⟩
      exfalso
      have hs := blkE.eq_1 s (o + i) d
      by_cases hi2 : o + i + 1 < s.size
      · rw [if_pos hi2] at hs
        have := blkE_bounds s (s.size - (o + i + 2)) (o + i + 2) (d + 1) rfl
        have := blkE_bounds s (s.size - (o + i + 2)) (o + i + 2) (d - 1) rfl
        have := blkE_bounds s (s.size - (o + i + 1)) (o + i + 1) d rfl
        split at hs
        · omega
        · split at hs
          · split at hs <;> omega
          · omega
      · rw [if_neg hi2] at hs; omega
end
end Go.VM
