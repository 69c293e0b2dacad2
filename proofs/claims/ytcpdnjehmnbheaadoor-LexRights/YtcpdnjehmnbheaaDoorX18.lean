/- Contracts of the functions that the law reaches: part of the proof (X18). -/
import Derived.Test.YtcpdnjehmnbheaaDoorX17
namespace Go.VM
open Go.Proofs Go
set_option maxRecDepth 100000
set_option linter.unusedVariables false
set_option linter.unusedSimpArgs false

/-- behind the piece nothing goes on -/
def Stop (s u : ByteArray) (o : Nat) : Prop := o + u.size = s.size ∨ blankB (btF s ((o + u.size : Nat) : Int)) = true
theorem blank_no {c : Int} (h : blankB c = true) : letterB c = false ∧ digitB c = false ∧ (c == 39) = false ∧ (c == 46) = false ∧ c ≠ 61 ∧ c ≠ 62 ∧ c ≠ 45 ∧ c ≠ 125 := by
  have : ((c = 32 ∨ c = 9) ∨ c = 10) ∨ c = 13 := by simpa [blankB] using h
  rcases this with ((rfl | rfl) | rfl) | rfl <;> decide

section
variable {s u : ByteArray} {o : Nat} (h : Sub s u o)
include h

theorem Sub.nameP_up (i : Nat) (hi : i < u.size) (hp : nameP u i = true) : nameP s (o + i) = true := by
  have hb := h.bt i hi
  simp only [nameP] at hp ⊢
  rw [← hb]
  simp only [Bool.or_eq_true, Bool.and_eq_true] at hp ⊢
  rcases hp with hp | ⟨h1, h2⟩
  · exact .inl hp
  · refine .inr ⟨h1, ?_⟩
    by_cases hlt : i + 1 < u.size
    · have := h.at' (i + 1) hlt
      rw [show (((i + 1 : Nat) : Int)) = (i : Int) + 1 by omega] at this
      rw [show (((o + i : Nat) : Int) + 1) = ((o + (i + 1) : Nat) : Int) by omega, ← this]
      exact h2
    · rw [atI, if_neg (by omega)] at h2
      exact absurd h2 (by decide)
theorem Sub.nameP_dn (i : Nat) (hi : i < u.size) (hp : nameP s (o + i) = true) (hn : i + 1 < u.size ∨ letterB (atI s ((o + i + 1 : Nat) : Int)) = false) : nameP u i = true := by
  have hb := h.bt i hi
  simp only [nameP] at hp ⊢
  rw [hb]
  simp only [Bool.or_eq_true, Bool.and_eq_true] at hp ⊢
  rcases hp with hp | ⟨h1, h2⟩
  · exact .inl hp
  · refine .inr ⟨h1, ?_⟩
    rcases hn with hlt | hn
    · have := h.at' (i + 1) hlt
      rw [show (((i + 1 : Nat) : Int)) = (i : Int) + 1 by omega] at this
      rw [this, show ((o + (i + 1) : Nat) : Int) = (((o + i : Nat) : Int) + 1) by omega]
      exact h2
    · rw [show ((o + i + 1 : Nat) : Int) = (((o + i : Nat) : Int) + 1) by omega, h2] at hn
      cases hn
omit h in
theorem stop_letter (hs : Stop s u o) : letterB (atI s ((o + u.size : Nat) : Int)) = false := by
  rw [atI]
  rcases hs with e | hb
  · rw [if_neg (by omega)]; decide
  · split
    · exact (blank_no hb).1
    · decide

theorem Sub.name (k : Nat) (hk : k < u.size) : (nameE s (o + k) ≤ o + u.size → nameE u k = nameE s (o + k) - o) ∧ (Stop s u o → nameE s (o + k) = o + nameE u k) := by
  have hl := h.le
  have b1 : o + k ≤ nameE s (o + k) ∧ nameE s (o + k) ≤ s.size := spanEnd_bounds (nameP s) s.size _ (o + k) rfl (by omega)
  have b2 : k ≤ nameE u k ∧ nameE u k ≤ u.size := spanEnd_bounds (nameP u) u.size _ k rfl (by omega)
  have a1 : ∀ j, o + k ≤ j → j < nameE s (o + k) → nameP s j = true := spanEnd_all (nameP s) s.size _ (o + k) rfl
  have a2 : ∀ j, k ≤ j → j < nameE u k → nameP u j = true := spanEnd_all (nameP u) u.size _ k rfl
  have t1 : nameE s (o + k) < s.size → nameP s (nameE s (o + k)) = false := spanEnd_stop (nameP s) s.size _ (o + k) rfl
  have t2 : nameE u k < u.size → nameP u (nameE u k) = false := spanEnd_stop (nameP u) u.size _ k rfl
  constructor
  · intro hle
    refine spanEnd_eq _ _ _ k _ rfl (by omega) (by omega) (fun j h1 h2 => ?_) (fun h2 => ?_)
    · refine h.nameP_dn j (by omega) (a1 _ (by omega) (by omega)) ?_
      by_cases hlt : j + 1 < u.size
      · exact .inl hlt
      · refine .inr ?_
        rw [Bool.eq_false_iff]
        intro hc
        have hn : o + j + 1 < s.size := by
          by_cases hn : o + j + 1 < s.size
          · exact hn
          · rw [atI, if_neg (by omega)] at hc
            exact absurd hc (by decide)
        have he : nameE s (o + k) = o + j + 1 := by omega
        have := t1 (by omega)
        rw [he] at this
        rw [atI, if_pos (by omega)] at hc
        simp [nameP, hc] at this
        rw [show ((o : Int) + j + 1) = ((o + j + 1 : Nat) : Int) by omega, hc] at this
        simp at this
    · have := t1 (by omega)
      rw [Bool.eq_false_iff] at this ⊢
      intro hc
      have := h.nameP_up _ h2 hc
      rw [show o + (nameE s (o + k) - o) = nameE s (o + k) by omega] at this
      contradiction
  · intro hst
    refine spanEnd_eq _ _ _ (o + k) _ rfl (by omega) (by omega) (fun j h1 h2 => ?_) (fun h2 => ?_)
    · obtain ⟨j', rfl⟩ : ∃ j', j = o + j' := ⟨j - o, by omega⟩
      exact h.nameP_up j' (by omega) (a2 j' (by omega) (by omega))
    · by_cases hlt : nameE u k < u.size
      · have := t2 hlt
        rw [Bool.eq_false_iff] at this ⊢
        intro hc
        refine this (h.nameP_dn _ hlt hc ?_)
        by_cases h3 : nameE u k + 1 < u.size
        · exact .inl h3
        · refine .inr ?_
          rw [show o + nameE u k + 1 = o + u.size by omega]
          exact stop_letter hst
      · have e : nameE u k = u.size := by omega
        rw [e] at h2 ⊢
        rcases hst with hst | hst
        · omega
        · obtain ⟨n1, n2, n3, n4, _⟩ := blank_no hst
          simp only [nameP, n1, n2, n3, n4]
          rfl
theorem Sub.digits (k : Nat) (hk : k < u.size) : (digitsE s (o + k) ≤ o + u.size → digitsE u k = digitsE s (o + k) - o) ∧ (Stop s u o → digitsE s (o + k) = o + digitsE u k) := by
  have hl := h.le
  have b1 : o + k ≤ digitsE s (o + k) ∧ digitsE s (o + k) ≤ s.size := spanEnd_bounds (fun i => digitB (btF s i)) s.size _ (o + k) rfl (by omega)
  have b2 : k ≤ digitsE u k ∧ digitsE u k ≤ u.size := spanEnd_bounds (fun i => digitB (btF u i)) u.size _ k rfl (by omega)
  have a1 : ∀ j : Nat, o + k ≤ j → j < digitsE s (o + k) → digitB (btF s j) = true := spanEnd_all (fun i => digitB (btF s i)) s.size _ (o + k) rfl
  have a2 : ∀ j : Nat, k ≤ j → j < digitsE u k → digitB (btF u j) = true := spanEnd_all (fun i => digitB (btF u i)) u.size _ k rfl
  have t1 : digitsE s (o + k) < s.size → digitB (btF s (digitsE s (o + k) : Nat)) = false := spanEnd_stop (fun i => digitB (btF s i)) s.size _ (o + k) rfl
  have t2 : digitsE u k < u.size → digitB (btF u (digitsE u k : Nat)) = false := spanEnd_stop (fun i => digitB (btF u i)) u.size _ k rfl
  constructor
  · intro hle
    refine spanEnd_eq _ _ _ k _ rfl (by omega) (by omega) (fun j h1 h2 => ?_) (fun h2 => ?_)
    · show digitB (btF u j) = true
      rw [h.bt j (by omega)]
      exact a1 _ (by omega) (by omega)
    · show digitB (btF u _) = false
      rw [h.bt _ h2, show o + (digitsE s (o + k) - o) = digitsE s (o + k) by omega]
      exact t1 (by omega)
  · intro hst
    refine spanEnd_eq _ _ _ (o + k) _ rfl (by omega) (by omega) (fun j h1 h2 => ?_) (fun h2 => ?_)
    · obtain ⟨j', rfl⟩ : ∃ j', j = o + j' := ⟨j - o, by omega⟩
      show digitB (btF s _) = true
      rw [← h.bt j' (by omega)]
      exact a2 j' (by omega) (by omega)
    · show digitB (btF s _) = false
      by_cases hlt : digitsE u k < u.size
      · rw [← h.bt _ hlt]
        exact t2 hlt
      · have e : digitsE u k = u.size := by omega
        rw [e] at h2 ⊢
        rcases hst with hst | hst
        · omega
        · exact (blank_no hst).2.1
theorem Sub.num : ∀ (n k : Nat) (a : Int), k + n ≤ u.size → numF u k n a = numF s (o + k) n a
  | 0, k, a, _ => rfl
  | n + 1, k, a, hk => by
    rw [numF, numF, h.bt k (by omega), Sub.num n (k + 1) _ (by omega)]
    rfl
end
end Go.VM
