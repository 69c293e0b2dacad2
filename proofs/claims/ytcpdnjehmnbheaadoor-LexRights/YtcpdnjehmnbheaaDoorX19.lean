/- Contracts of the functions that the law reaches: part of the proof (X19). -/
import Derived.Test.YtcpdnjehmnbheaaDoorX18
namespace Go.VM
open Go.Proofs Go
set_option maxRecDepth 100000
set_option linter.unusedVariables false
set_option linter.unusedSimpArgs false

theorem signF_eq (f : Nat → ByteArray) (t : ByteArray) : ∀ (n i j : Nat), i ≤ j → j < i + n → preB t (f j) = true → (∀ q, i ≤ q → q < j → preB t (f q) = false) → signF f t i n = j
  | 0, i, j, h1, h2, _, _ => by omega
  | n + 1, i, j, h1, h2, h3, h4 => by
    unfold signF
    by_cases e : i = j
    · subst e; rw [if_pos h3]
    · rw [if_neg (by rw [h4 i (by omega) (by omega)]; decide)]
      exact signF_eq f t n (i + 1) j (by omega) (by omega) h3 (fun q a b => h4 q (by omega) b)
theorem signF_first (f : Nat → ByteArray) (t : ByteArray) : ∀ (n i : Nat) (q : Nat), i ≤ q → (q : Int) < signF f t i n → preB t (f q) = false
  | 0, i, q, h1, h2 => by
    simp only [signF] at h2
    omega
  | n + 1, i, q, h1, h2 => by
    unfold signF at h2
    split at h2
    · omega
    · rename_i hn
      by_cases e : i = q
      · subst e; simpa using hn
      · exact signF_first f t n (i + 1) q (by omega) h2
theorem signF_same (f : Nat → ByteArray) (t t' : ByteArray) : ∀ (n i : Nat), (∀ q, i ≤ q → q < i + n → preB t (f q) = preB t' (f q)) → signF f t i n = signF f t' i n
  | 0, i, _ => rfl
  | n + 1, i, h => by
    unfold signF
    rw [h i (by omega) (by omega), signF_same f t t' n (i + 1) (fun q a b => h q (by omega) (by omega))]
theorem signF_ge (f : Nat → ByteArray) (t : ByteArray) : ∀ (n i : Nat), 0 ≤ signF f t i n → (i : Int) ≤ signF f t i n
  | 0, i, h => by simp only [signF] at h; omega
  | n + 1, i, h => by
    unfold signF at h ⊢
    split
    · omega
    · rename_i hn
      rw [if_neg hn] at h
      have := signF_ge f t n (i + 1) h
      omega
theorem signs_snd : ∀ i, i < 17 → (nthS signsL i).size = 2 → btF (nthS signsL i) 1 = 61 ∨ btF (nthS signsL i) 1 = 62 := by decide

def Nx.sh (o : Nat) (x : Nx) : Nx := { x with pos := x.pos + o, fin := x.fin + o }

section
variable {s u : ByteArray} {o : Nat} (h : Sub s u o)
include h

theorem Sub.pre_up (k : Nat) (hk : k < u.size) (p : ByteArray) (hp : preB (u.extract k u.size) p = true) : preB (s.extract (o + k) s.size) p = true := by
  have hl := h.le
  rw [sign_iff _ _ (by omega)] at hp ⊢
  obtain ⟨h1, h2⟩ := hp
  refine ⟨by omega, ?_⟩
  have he := h.ext k (k + p.size) (by omega) (by omega)
  rw [h2] at he
  rw [show o + k + p.size = o + (k + p.size) by omega, ← he]
theorem Sub.pre_dn (k : Nat) (hk : k < u.size) (p : ByteArray) (hp : preB (s.extract (o + k) s.size) p = true) (hf : k + p.size ≤ u.size) : preB (u.extract k u.size) p = true := by
  have hl := h.le
  rw [sign_iff _ _ (by omega)] at hp ⊢
  obtain ⟨h1, h2⟩ := hp
  refine ⟨by omega, ?_⟩
  rw [h.ext k (k + p.size) (by omega) (by omega), ← show o + k + p.size = o + (k + p.size) by omega]
  exact h2
theorem Sub.sign_up (hs : Stop s u o) (k : Nat) (hk : k < u.size) : signF (nthS signsL) (s.extract (o + k) s.size) 0 17 = signF (nthS signsL) (u.extract k u.size) 0 17 := by
  have hl := h.le
  refine signF_same _ _ _ _ _ fun q _ hq => ?_
  have hz := signs_size2 q (by omega)
  rw [Bool.eq_iff_iff]
  refine ⟨fun hp => ?_, h.pre_up k hk _⟩
  by_cases hf : k + (nthS signsL q).size ≤ u.size
  · exact h.pre_dn k hk _ hp hf
  · exfalso
    have h2 : (nthS signsL q).size = 2 := by omega
    have hp2 := (sign_iff _ _ (by omega) _).1 hp
    rw [h2] at hp2
    have hb := ext_bt2 s (o + k) (o + k + 2) 1 (by omega) (by omega)
    rw [hp2.2] at hb
    have := signs_snd q (by omega) h2
    rcases hs with e | hs
    · omega
    · obtain ⟨_, _, _, _, n1, n2, _⟩ := blank_no hs
      rw [show o + u.size = o + k + 1 by omega, ← hb] at n1 n2
      rcases this with e | e
      · exact n1 e
      · exact n2 e
theorem Sub.sign_dn (k : Nat) (hk : k < u.size) (hj : 0 ≤ signF (nthS signsL) (s.extract (o + k) s.size) 0 17) (hf : k + (nthS signsL (signF (nthS signsL) (s.extract (o + k) s.size) 0 17).toNat).size ≤ u.size) : signF (nthS signsL) (u.extract k u.size) 0 17 = signF (nthS signsL) (s.extract (o + k) s.size) 0 17 := by
  have hlt := signF_lt (nthS signsL) (s.extract (o + k) s.size) 17 0
  have hp := signF_pre (nthS signsL) (s.extract (o + k) s.size) 17 0 hj
  have := signF_eq (nthS signsL) (u.extract k u.size) 17 0 (signF (nthS signsL) (s.extract (o + k) s.size) 0 17).toNat (by omega) (by omega) (h.pre_dn k hk _ hp hf) (fun q _ hq => by
    rw [Bool.eq_false_iff]
    intro hc
    have := h.pre_up k hk _ hc
    rw [signF_first (nthS signsL) _ 17 0 q (by omega) (by omega)] at this
    cases this)
  rw [this]
  omega

theorem Sub.tok_up (hs : Stop s u o) (k : Nat) (hk : k < u.size) (hc : (tokR u k).code = 0) : tokR s (o + k) = (tokR u k).sh o := by
  have hl := h.le
  have hb := h.bt k hk
  have hn := (h.name k hk).2 hs
  have hd := (h.digits k hk).2 hs
  have hg := h.sign_up hs k hk
  have n2 : k ≤ nameE u k ∧ nameE u k ≤ u.size := spanEnd_bounds (nameP u) u.size _ k rfl (by omega)
  have d2 : k ≤ digitsE u k ∧ digitsE u k ≤ u.size := spanEnd_bounds (fun i => digitB (btF u i)) u.size _ k rfl (by omega)
  unfold tokR at hc ⊢
  rw [hn, hd, hg, ← hb]
  rw [← h.ext k (nameE u k) n2.1 n2.2, ← h.ext k (digitsE u k) d2.1 d2.2]
  split
  · simp [Nx.sh]; omega
  · rename_i hl1
    rw [if_neg hl1] at hc
    split
    · rename_i hd1
      rw [if_pos hd1] at hc
      have hnum := h.num (digitsE u k - k) k 0 (by omega)
      have hat : letterB (atI s ((o + digitsE u k : Nat) : Int)) = letterB (atI u (digitsE u k : Nat)) := by
        by_cases hlt : digitsE u k < u.size
        · rw [h.at' _ hlt]
        · rw [show digitsE u k = u.size by omega, stop_letter hs, atI, if_neg (by omega)]
          decide
      rw [show o + digitsE u k - (o + k) = digitsE u k - k by omega, ← hnum, hat]
      split
      · rename_i h3; rw [if_pos h3] at hc; exact absurd hc (by simp)
      · rename_i h3
        rw [if_neg h3] at hc
        split
        · rename_i h4; rw [if_pos h4] at hc; exact absurd hc (by simp)
        · simp [Nx.sh]; omega
    · rename_i hd1
      rw [if_neg hd1] at hc
      split
      · rename_i h3; rw [if_pos h3] at hc; exact absurd hc (by simp)
      · simp [Nx.sh]; omega
theorem Sub.tok_dn (k : Nat) (hk : k < u.size) (hc : (tokR s (o + k)).code = 0) (hf : (tokR s (o + k)).fin ≤ o + u.size) : tokR s (o + k) = (tokR u k).sh o := by
  have hl := h.le
  have hb := h.bt k hk
  have n1 : o + k ≤ nameE s (o + k) ∧ nameE s (o + k) ≤ s.size := spanEnd_bounds (nameP s) s.size _ _ rfl (by omega)
  have d1 : o + k ≤ digitsE s (o + k) ∧ digitsE s (o + k) ≤ s.size := spanEnd_bounds (fun i => digitB (btF s i)) s.size _ _ rfl (by omega)
  unfold tokR at hc hf ⊢
  rw [← hb] at hc hf ⊢
  split
  · rename_i hl1
    rw [if_pos hl1] at hf
    have hf' : nameE s (o + k) ≤ o + u.size := by simp only at hf; omega
    have hn := (h.name k hk).1 hf'
    rw [hn, h.ext k (nameE s (o + k) - o) (by omega) (by omega), show o + (nameE s (o + k) - o) = nameE s (o + k) by omega]
    simp only [Nx.sh, Nx.mk.injEq]
    refine ⟨trivial, trivial, ?_, trivial, ?_, trivial, trivial⟩ <;> omega
  · rename_i hl1
    rw [if_neg hl1] at hc hf
    split
    · rename_i hd1
      rw [if_pos hd1] at hc hf
      split at hc
      · exact absurd hc (by simp)
      · rename_i h3
        rw [if_neg h3] at hf
        split at hc
        · exact absurd hc (by simp)
        · rename_i h4
          rw [if_neg h4] at hf
          have hf' : digitsE s (o + k) ≤ o + u.size := by simp only at hf; omega
          have hd := (h.digits k hk).1 hf'
          have hnum := h.num (digitsE s (o + k) - o - k) k 0 (by omega)
          rw [show digitsE s (o + k) - o - k = digitsE s (o + k) - (o + k) by omega] at hnum
          rw [if_neg h3, if_neg h4, hd, show digitsE s (o + k) - o - k = digitsE s (o + k) - (o + k) by omega, hnum, if_neg h3]
          have hat : ¬ letterB (atI u ((digitsE s (o + k) - o : Nat) : Int)) = true := by
            by_cases hlt : digitsE s (o + k) - o < u.size
            · rw [h.at' _ hlt, show o + (digitsE s (o + k) - o) = digitsE s (o + k) by omega]
              exact h4
            · rw [atI, if_neg (by omega)]; decide
          rw [if_neg hat, h.ext k (digitsE s (o + k) - o) (by omega) (by omega), show o + (digitsE s (o + k) - o) = digitsE s (o + k) by omega]
          simp only [Nx.sh, Nx.mk.injEq]
          refine ⟨trivial, trivial, ?_, trivial, ?_, trivial, trivial⟩ <;> omega
    · rename_i hd1
      rw [if_neg hd1] at hc hf
      split at hc
      · exact absurd hc (by simp)
      · rename_i h3
        rw [if_neg h3] at hf
        have hg := h.sign_dn k hk (by omega) (by simp only at hf; omega)
        rw [if_neg h3, hg, if_neg h3]
        simp only [Nx.sh, Nx.mk.injEq]
        refine ⟨trivial, trivial, ?_, trivial, ?_, trivial, trivial⟩ <;> omega
end
end Go.VM
