/- Part of the proof: X17, X18, X19, X20, X21. -/
import Derived.Test.YtcpdnjehmnbheaaDoorXG2
namespace Go.VM
open Go.Proofs Go
set_option maxRecDepth 100000
set_option linter.unusedVariables false
set_option linter.unusedSimpArgs false

/-! ### Where a piece of a source is read as the source is -/
theorem spanEnd_eq (p : Nat → Bool) (n : Nat) : ∀ (m i e : Nat), n - i = m → i ≤ e → e ≤ n → (∀ j, i ≤ j → j < e → p j = true) → (e < n → p e = false) → spanEnd p n i = e
  | 0, i, e, hm, h1, h2, h3, h4 => by rw [spanEnd]; split <;> omega
  | m + 1, i, e, hm, h1, h2, h3, h4 => by
    rw [spanEnd, if_pos (by omega)]
    by_cases he : i = e
    · subst he
      rw [h4 (by omega)]
      rfl
    · rw [if_pos (h3 i (by omega) (by omega))]
      exact spanEnd_eq p n m (i + 1) e (by omega) (by omega) h2 (fun j a b => h3 j (by omega) b) h4
theorem spanEnd_stop (p : Nat → Bool) (n : Nat) : ∀ (m i : Nat), n - i = m → spanEnd p n i < n → p (spanEnd p n i) = false
  | 0, i, hm, h => by rw [spanEnd] at h; split at h <;> omega
  | m + 1, i, hm, h => by
    rw [spanEnd, if_pos (by omega)] at h ⊢
    split
    · rename_i hp
      rw [if_pos hp] at h
      exact spanEnd_stop p n m (i + 1) (by omega) h
    · rename_i hp; simpa using hp

structure Sub (s u : ByteArray) (o : Nat) : Prop where
  le : o + u.size ≤ s.size
  bt : ∀ i : Nat, i < u.size → btF u i = btF s ((o + i : Nat) : Int)
  ext : ∀ i j, i ≤ j → j ≤ u.size → u.extract i j = s.extract (o + i) (o + j)

theorem sub_extract (s : ByteArray) (a b : Nat) (h : a ≤ b) (hb : b ≤ s.size) : Sub s (s.extract a b) a := by
  have hz : (s.extract a b).size = b - a := by simp [ByteArray.size_extract]; omega
  refine ⟨by omega, fun i hi => ext_bt2 s a b i hb (by omega), fun i j h1 h2 => ?_⟩
  rw [ByteArray.extract_extract]
  congr 1
  omega
theorem sub_of_ext {s u : ByteArray} {o : Nat} (h1 : o + u.size ≤ s.size) (h2 : s.extract o (o + u.size) = u) : Sub s u o := by
  have := sub_extract s o (o + u.size) (by omega) h1
  rw [h2] at this
  exact this

section
variable {s u : ByteArray} {o : Nat} (h : Sub s u o)
include h

theorem Sub.two (k : Nat) (hk : k + 1 < u.size) (x y : Int) : twoB u k x y = twoB s (o + k) x y := by
  have h1 := h.bt k (by omega)
  have h2 := h.bt (k + 1) hk
  have e1 : ((k : Int) + 1) = ((k + 1 : Nat) : Int) := by omega
  have e2 : (((o + k : Nat) : Int) + 1) = ((o + (k + 1) : Nat) : Int) := by omega
  have := h.le
  simp only [twoB, e1, e2, h1, h2, hk, show o + k + 1 < s.size by omega, decide_true]
theorem Sub.at' (k : Nat) (hk : k < u.size) : atI u k = atI s ((o + k : Nat) : Int) := by
  have := h.le
  simp only [atI]
  rw [if_pos (by omega), if_pos (by omega), h.bt k hk]

/-- the end of a line comment -/
theorem Sub.line (k : Nat) (hk : k < u.size) : (lineE s (o + k) ≤ o + u.size → lineE u k = lineE s (o + k) - o) ∧ ((o + u.size = s.size ∨ btF s ((o + u.size : Nat) : Int) = 10) → lineE s (o + k) = o + lineE u k) := by
  have hl := h.le
  have b1 := spanEnd_bounds (fun i => btF s i != 10) s.size _ (o + k) rfl (by omega)
  have b2 := spanEnd_bounds (fun i => btF u i != 10) u.size _ k rfl (by omega)
  have a1 := spanEnd_all (fun i => btF s i != 10) s.size _ (o + k) rfl
  have a2 := spanEnd_all (fun i => btF u i != 10) u.size _ k rfl
  have t1 := spanEnd_stop (fun i => btF s i != 10) s.size _ (o + k) rfl
  have t2 := spanEnd_stop (fun i => btF u i != 10) u.size _ k rfl
  constructor
  · intro hle
    refine spanEnd_eq _ _ _ k _ rfl ?_ ?_ ?_ ?_
    · unfold lineE; omega
    · unfold lineE at hle ⊢; omega
    · intro j h1 h2
      unfold lineE at h2 hle
      have := a1 (o + j) (by omega) (by omega)
      rw [h.bt j (by omega)]
      exact this
    · intro h2
      unfold lineE at h2 hle ⊢
      have := t1 (by omega)
      rw [h.bt _ h2, show o + (spanEnd (fun i => btF s i != 10) s.size (o + k) - o) = spanEnd (fun i => btF s i != 10) s.size (o + k) by omega]
      exact this
  · intro hst
    refine spanEnd_eq _ _ _ (o + k) _ rfl ?_ ?_ ?_ ?_
    · unfold lineE; omega
    · unfold lineE; omega
    · intro j h1 h2
      unfold lineE at h2
      obtain ⟨j', rfl⟩ : ∃ j', j = o + j' := ⟨j - o, by omega⟩
      have := a2 j' (by omega) (by omega)
      rw [← h.bt j' (by omega)]
      exact this
    · intro h2
      unfold lineE at h2 ⊢
      by_cases hlt : spanEnd (fun i => btF u i != 10) u.size k < u.size
      · have := t2 hlt
        rw [← h.bt _ hlt]
        exact this
      · have e : spanEnd (fun i => btF u i != 10) u.size k = u.size := by omega
        rw [e] at h2 ⊢
        rcases hst with hst | hst
        · omega
        · rw [bne_eq_false_iff_eq]; exact hst

/-- the end of a block comment -/
theorem Sub.blk : ∀ (m i d : Nat), u.size - i = m → (∀ e : Nat, blkE s (o + i) d = e → e ≤ o + u.size → blkE u i d = ((e - o : Nat) : Int)) ∧ (0 ≤ blkE u i d → blkE s (o + i) d = o + blkE u i d) := by
  have hl := h.le
  intro m
  induction m using Nat.strongRecOn with
  | ind m ih =>
    intro i d hm
    by_cases hi : i + 1 < u.size
    · have hu := blkE.eq_1 u i d
      have hs := blkE.eq_1 s (o + i) d
      rw [if_pos hi, h.two i hi, h.two i hi] at hu
      rw [if_pos (by omega)] at hs
      cases c1 : twoB s (o + i) 123 45 with
      | true =>
        simp only [c1, if_true] at hu hs
        have := ih (u.size - (i + 2)) (by omega) (i + 2) (d + 1) rfl
        rw [show o + (i + 2) = o + i + 2 by omega] at this
        rw [hu, hs]
        exact this
      | false =>
        cases c2 : twoB s (o + i) 45 125 with
        | true =>
          simp only [c1, c2, if_true, Bool.false_eq_true, if_false] at hu hs
          by_cases hd : d ≤ 1
          · rw [if_pos hd] at hu hs
            rw [hu, hs]
            refine ⟨fun e he hle => ?_, fun _ => ?_⟩ <;> omega
          · rw [if_neg hd] at hu hs
            have := ih (u.size - (i + 2)) (by omega) (i + 2) (d - 1) rfl
            rw [show o + (i + 2) = o + i + 2 by omega] at this
            rw [hu, hs]
            exact this
        | false =>
          simp only [c1, c2, Bool.false_eq_true, if_false] at hu hs
          have := ih (u.size - (i + 1)) (by omega) (i + 1) d rfl
          rw [show o + (i + 1) = o + i + 1 by omega] at this
          rw [hu, hs]
          exact this
    · have hu := blkE.eq_1 u i d
      rw [if_neg hi] at hu
      rw [hu]
      refine ⟨fun e he hle => ?_, fun hc => absurd hc (by decide)⟩
      exfalso
      have hs := blkE.eq_1 s (o + i) d
      by_cases hi2 : o + i + 1 < s.size
      · rw [if_pos hi2] at hs
        have := blkE_bounds s (s.size - (o + i + 2)) (o + i + 2) (d + 1) rfl
        have := blkE_bounds s (s.size - (o + i + 2)) (o + i + 2) (d - 1) rfl
        have := blkE_bounds s (s.size - (o + i + 1)) (o + i + 1) d rfl
        split at hs
        · omega
        · split at hs
          · split at hs <;> omega
          · omega
      · rw [if_neg hi2] at hs; omega
end
end Go.VM

namespace Go.VM
open Go.Proofs Go
set_option maxRecDepth 100000
set_option linter.unusedVariables false
set_option linter.unusedSimpArgs false

/-- behind the piece nothing goes on -/
def Stop (s u : ByteArray) (o : Nat) : Prop := o + u.size = s.size ∨ blankB (btF s ((o + u.size : Nat) : Int)) = true
theorem blank_no {c : Int} (h : blankB c = true) : letterB c = false ∧ digitB c = false ∧ (c == 39) = false ∧ (c == 46) = false ∧ c ≠ 61 ∧ c ≠ 62 ∧ c ≠ 45 ∧ c ≠ 125 := by
  have : ((c = 32 ∨ c = 9) ∨ c = 10) ∨ c = 13 := by simpa [blankB] using h
  rcases this with ((rfl | rfl) | rfl) | rfl <;> decide

section
variable {s u : ByteArray} {o : Nat} (h : Sub s u o)
include h

theorem Sub.nameP_up (i : Nat) (hi : i < u.size) (hp : nameP u i = true) : nameP s (o + i) = true := by
  have hb := h.bt i hi
  simp only [nameP] at hp ⊢
  rw [← hb]
  simp only [Bool.or_eq_true, Bool.and_eq_true] at hp ⊢
  rcases hp with hp | ⟨h1, h2⟩
  · exact .inl hp
  · refine .inr ⟨h1, ?_⟩
    by_cases hlt : i + 1 < u.size
    · have := h.at' (i + 1) hlt
      rw [show (((i + 1 : Nat) : Int)) = (i : Int) + 1 by omega] at this
      rw [show (((o + i : Nat) : Int) + 1) = ((o + (i + 1) : Nat) : Int) by omega, ← this]
      exact h2
    · rw [atI, if_neg (by omega)] at h2
      exact absurd h2 (by decide)
theorem Sub.nameP_dn (i : Nat) (hi : i < u.size) (hp : nameP s (o + i) = true) (hn : i + 1 < u.size ∨ letterB (atI s ((o + i + 1 : Nat) : Int)) = false) : nameP u i = true := by
  have hb := h.bt i hi
  simp only [nameP] at hp ⊢
  rw [hb]
  simp only [Bool.or_eq_true, Bool.and_eq_true] at hp ⊢
  rcases hp with hp | ⟨h1, h2⟩
  · exact .inl hp
  · refine .inr ⟨h1, ?_⟩
    rcases hn with hlt | hn
    · have := h.at' (i + 1) hlt
      rw [show (((i + 1 : Nat) : Int)) = (i : Int) + 1 by omega] at this
      rw [this, show ((o + (i + 1) : Nat) : Int) = (((o + i : Nat) : Int) + 1) by omega]
      exact h2
    · rw [show ((o + i + 1 : Nat) : Int) = (((o + i : Nat) : Int) + 1) by omega, h2] at hn
      cases hn
omit h in
theorem stop_letter (hs : Stop s u o) : letterB (atI s ((o + u.size : Nat) : Int)) = false := by
  rw [atI]
  rcases hs with e | hb
  · rw [if_neg (by omega)]; decide
  · split
    · exact (blank_no hb).1
    · decide

theorem Sub.name (k : Nat) (hk : k < u.size) : (nameE s (o + k) ≤ o + u.size → nameE u k = nameE s (o + k) - o) ∧ (Stop s u o → nameE s (o + k) = o + nameE u k) := by
  have hl := h.le
  have b1 : o + k ≤ nameE s (o + k) ∧ nameE s (o + k) ≤ s.size := spanEnd_bounds (nameP s) s.size _ (o + k) rfl (by omega)
  have b2 : k ≤ nameE u k ∧ nameE u k ≤ u.size := spanEnd_bounds (nameP u) u.size _ k rfl (by omega)
  have a1 : ∀ j, o + k ≤ j → j < nameE s (o + k) → nameP s j = true := spanEnd_all (nameP s) s.size _ (o + k) rfl
  have a2 : ∀ j, k ≤ j → j < nameE u k → nameP u j = true := spanEnd_all (nameP u) u.size _ k rfl
  have t1 : nameE s (o + k) < s.size → nameP s (nameE s (o + k)) = false := spanEnd_stop (nameP s) s.size _ (o + k) rfl
  have t2 : nameE u k < u.size → nameP u (nameE u k) = false := spanEnd_stop (nameP u) u.size _ k rfl
  constructor
  · intro hle
    refine spanEnd_eq _ _ _ k _ rfl (by omega) (by omega) (fun j h1 h2 => ?_) (fun h2 => ?_)
    · refine h.nameP_dn j (by omega) (a1 _ (by omega) (by omega)) ?_
      by_cases hlt : j + 1 < u.size
      · exact .inl hlt
      · refine .inr ?_
        rw [Bool.eq_false_iff]
        intro hc
        have hn : o + j + 1 < s.size := by
          by_cases hn : o + j + 1 < s.size
          · exact hn
          · rw [atI, if_neg (by omega)] at hc
            exact absurd hc (by decide)
        have he : nameE s (o + k) = o + j + 1 := by omega
        have := t1 (by omega)
        rw [he] at this
        rw [atI, if_pos (by omega)] at hc
        simp [nameP, hc] at this
        rw [show ((o : Int) + j + 1) = ((o + j + 1 : Nat) : Int) by omega, hc] at this
        simp at this
    · have := t1 (by omega)
      rw [Bool.eq_false_iff] at this ⊢
      intro hc
      have := h.nameP_up _ h2 hc
      rw [show o + (nameE s (o + k) - o) = nameE s (o + k) by omega] at this
      contradiction
  · intro hst
    refine spanEnd_eq _ _ _ (o + k) _ rfl (by omega) (by omega) (fun j h1 h2 => ?_) (fun h2 => ?_)
    · obtain ⟨j', rfl⟩ : ∃ j', j = o + j' := ⟨j - o, by omega⟩
      exact h.nameP_up j' (by omega) (a2 j' (by omega) (by omega))
    · by_cases hlt : nameE u k < u.size
      · have := t2 hlt
        rw [Bool.eq_false_iff] at this ⊢
        intro hc
        refine this (h.nameP_dn _ hlt hc ?_)
        by_cases h3 : nameE u k + 1 < u.size
        · exact .inl h3
        · refine .inr ?_
          rw [show o + nameE u k + 1 = o + u.size by omega]
          exact stop_letter hst
      · have e : nameE u k = u.size := by omega
        rw [e] at h2 ⊢
        rcases hst with hst | hst
        · omega
        · obtain ⟨n1, n2, n3, n4, _⟩ := blank_no hst
          simp only [nameP, n1, n2, n3, n4]
          rfl
theorem Sub.digits (k : Nat) (hk : k < u.size) : (digitsE s (o + k) ≤ o + u.size → digitsE u k = digitsE s (o + k) - o) ∧ (Stop s u o → digitsE s (o + k) = o + digitsE u k) := by
  have hl := h.le
  have b1 : o + k ≤ digitsE s (o + k) ∧ digitsE s (o + k) ≤ s.size := spanEnd_bounds (fun i => digitB (btF s i)) s.size _ (o + k) rfl (by omega)
  have b2 : k ≤ digitsE u k ∧ digitsE u k ≤ u.size := spanEnd_bounds (fun i => digitB (btF u i)) u.size _ k rfl (by omega)
  have a1 : ∀ j : Nat, o + k ≤ j → j < digitsE s (o + k) → digitB (btF s j) = true := spanEnd_all (fun i => digitB (btF s i)) s.size _ (o + k) rfl
  have a2 : ∀ j : Nat, k ≤ j → j < digitsE u k → digitB (btF u j) = true := spanEnd_all (fun i => digitB (btF u i)) u.size _ k rfl
  have t1 : digitsE s (o + k) < s.size → digitB (btF s (digitsE s (o + k) : Nat)) = false := spanEnd_stop (fun i => digitB (btF s i)) s.size _ (o + k) rfl
  have t2 : digitsE u k < u.size → digitB (btF u (digitsE u k : Nat)) = false := spanEnd_stop (fun i => digitB (btF u i)) u.size _ k rfl
  constructor
  · intro hle
    refine spanEnd_eq _ _ _ k _ rfl (by omega) (by omega) (fun j h1 h2 => ?_) (fun h2 => ?_)
    · show digitB (btF u j) = true
      rw [h.bt j (by omega)]
      exact a1 _ (by omega) (by omega)
    · show digitB (btF u _) = false
      rw [h.bt _ h2, show o + (digitsE s (o + k) - o) = digitsE s (o + k) by omega]
      exact t1 (by omega)
  · intro hst
    refine spanEnd_eq _ _ _ (o + k) _ rfl (by omega) (by omega) (fun j h1 h2 => ?_) (fun h2 => ?_)
    · obtain ⟨j', rfl⟩ : ∃ j', j = o + j' := ⟨j - o, by omega⟩
      show digitB (btF s _) = true
      rw [← h.bt j' (by omega)]
      exact a2 j' (by omega) (by omega)
    · show digitB (btF s _) = false
      by_cases hlt : digitsE u k < u.size
      · rw [← h.bt _ hlt]
        exact t2 hlt
      · have e : digitsE u k = u.size := by omega
        rw [e] at h2 ⊢
        rcases hst with hst | hst
        · omega
        · exact (blank_no hst).2.1
theorem Sub.num : ∀ (n k : Nat) (a : Int), k + n ≤ u.size → numF u k n a = numF s (o + k) n a
  | 0, k, a, _ => rfl
  | n + 1, k, a, hk => by
    rw [numF, numF, h.bt k (by omega), Sub.num n (k + 1) _ (by omega)]
    rfl
end
end Go.VM

namespace Go.VM
open Go.Proofs Go
set_option maxRecDepth 100000
set_option linter.unusedVariables false
set_option linter.unusedSimpArgs false

theorem signF_eq (f : Nat → ByteArray) (t : ByteArray) : ∀ (n i j : Nat), i ≤ j → j < i + n → preB t (f j) = true → (∀ q, i ≤ q → q < j → preB t (f q) = false) → signF f t i n = j
  | 0, i, j, h1, h2, _, _ => by omega
  | n + 1, i, j, h1, h2, h3, h4 => by
    unfold signF
    by_cases e : i = j
    · subst e; rw [if_pos h3]
    · rw [if_neg (by rw [h4 i (by omega) (by omega)]; decide)]
      exact signF_eq f t n (i + 1) j (by omega) (by omega) h3 (fun q a b => h4 q (by omega) b)
theorem signF_first (f : Nat → ByteArray) (t : ByteArray) : ∀ (n i : Nat) (q : Nat), i ≤ q → (q : Int) < signF f t i n → preB t (f q) = false
  | 0, i, q, h1, h2 => by
    simp only [signF] at h2
    omega
  | n + 1, i, q, h1, h2 => by
    unfold signF at h2
    split at h2
    · omega
    · rename_i hn
      by_cases e : i = q
      · subst e; simpa using hn
      · exact signF_first f t n (i + 1) q (by omega) h2
theorem signF_same (f : Nat → ByteArray) (t t' : ByteArray) : ∀ (n i : Nat), (∀ q, i ≤ q → q < i + n → preB t (f q) = preB t' (f q)) → signF f t i n = signF f t' i n
  | 0, i, _ => rfl
  | n + 1, i, h => by
    unfold signF
    rw [h i (by omega) (by omega), signF_same f t t' n (i + 1) (fun q a b => h q (by omega) (by omega))]
theorem signF_ge (f : Nat → ByteArray) (t : ByteArray) : ∀ (n i : Nat), 0 ≤ signF f t i n → (i : Int) ≤ signF f t i n
  | 0, i, h => by simp only [signF] at h; omega
  | n + 1, i, h => by
    unfold signF at h ⊢
    split
    · omega
    · rename_i hn
      rw [if_neg hn] at h
      have := signF_ge f t n (i + 1) h
      omega
theorem signs_snd : ∀ i, i < 17 → (nthS signsL i).size = 2 → btF (nthS signsL i) 1 = 61 ∨ btF (nthS signsL i) 1 = 62 := by decide

def Nx.sh (o : Nat) (x : Nx) : Nx := { x with pos := x.pos + o, fin := x.fin + o }

section
variable {s u : ByteArray} {o : Nat} (h : Sub s u o)
include h

theorem Sub.pre_up (k : Nat) (hk : k < u.size) (p : ByteArray) (hp : preB (u.extract k u.size) p = true) : preB (s.extract (o + k) s.size) p = true := by
  have hl := h.le
  rw [sign_iff _ _ (by omega)] at hp ⊢
  obtain ⟨h1, h2⟩ := hp
  refine ⟨by omega, ?_⟩
  have he := h.ext k (k + p.size) (by omega) (by omega)
  rw [h2] at he
  rw [show o + k + p.size = o + (k + p.size) by omega, ← he]
theorem Sub.pre_dn (k : Nat) (hk : k < u.size) (p : ByteArray) (hp : preB (s.extract (o + k) s.size) p = true) (hf : k + p.size ≤ u.size) : preB (u.extract k u.size) p = true := by
  have hl := h.le
  rw [sign_iff _ _ (by omega)] at hp ⊢
  obtain ⟨h1, h2⟩ := hp
  refine ⟨by omega, ?_⟩
  rw [h.ext k (k + p.size) (by omega) (by omega), ← show o + k + p.size = o + (k + p.size) by omega]
  exact h2
theorem Sub.sign_up (hs : Stop s u o) (k : Nat) (hk : k < u.size) : signF (nthS signsL) (s.extract (o + k) s.size) 0 17 = signF (nthS signsL) (u.extract k u.size) 0 17 := by
  have hl := h.le
  refine signF_same _ _ _ _ _ fun q _ hq => ?_
  have hz := signs_size2 q (by omega)
  rw [Bool.eq_iff_iff]
  refine ⟨fun hp => ?_, h.pre_up k hk _⟩
  by_cases hf : k + (nthS signsL q).size ≤ u.size
  · exact h.pre_dn k hk _ hp hf
  · exfalso
    have h2 : (nthS signsL q).size = 2 := by omega
    have hp2 := (sign_iff _ _ (by omega) _).1 hp
    rw [h2] at hp2
    have hb := ext_bt2 s (o + k) (o + k + 2) 1 (by omega) (by omega)
    rw [hp2.2] at hb
    have := signs_snd q (by omega) h2
    rcases hs with e | hs
    · omega
    · obtain ⟨_, _, _, _, n1, n2, _⟩ := blank_no hs
      rw [show o + u.size = o + k + 1 by omega, ← hb] at n1 n2
      rcases this with e | e
      · exact n1 e
      · exact n2 e
theorem Sub.sign_dn (k : Nat) (hk : k < u.size) (hj : 0 ≤ signF (nthS signsL) (s.extract (o + k) s.size) 0 17) (hf : k + (nthS signsL (signF (nthS signsL) (s.extract (o + k) s.size) 0 17).toNat).size ≤ u.size) : signF (nthS signsL) (u.extract k u.size) 0 17 = signF (nthS signsL) (s.extract (o + k) s.size) 0 17 := by
  have hlt := signF_lt (nthS signsL) (s.extract (o + k) s.size) 17 0
  have hp := signF_pre (nthS signsL) (s.extract (o + k) s.size) 17 0 hj
  have := signF_eq (nthS signsL) (u.extract k u.size) 17 0 (signF (nthS signsL) (s.extract (o + k) s.size) 0 17).toNat (by omega) (by omega) (h.pre_dn k hk _ hp hf) (fun q _ hq => by
    rw [Bool.eq_false_iff]
    intro hc
    have := h.pre_up k hk _ hc
    rw [signF_first (nthS signsL) _ 17 0 q (by omega) (by omega)] at this
    cases this)
  rw [this]
  omega

theorem Sub.tok_up (hs : Stop s u o) (k : Nat) (hk : k < u.size) (hc : (tokR u k).code = 0) : tokR s (o + k) = (tokR u k).sh o := by
  have hl := h.le
  have hb := h.bt k hk
  have hn := (h.name k hk).2 hs
  have hd := (h.digits k hk).2 hs
  have hg := h.sign_up hs k hk
  have n2 : k ≤ nameE u k ∧ nameE u k ≤ u.size := spanEnd_bounds (nameP u) u.size _ k rfl (by omega)
  have d2 : k ≤ digitsE u k ∧ digitsE u k ≤ u.size := spanEnd_bounds (fun i => digitB (btF u i)) u.size _ k rfl (by omega)
  unfold tokR at hc ⊢
  rw [hn, hd, hg, ← hb]
  rw [← h.ext k (nameE u k) n2.1 n2.2, ← h.ext k (digitsE u k) d2.1 d2.2]
  split
  · simp [Nx.sh]; omega
  · rename_i hl1
    rw [if_neg hl1] at hc
    split
    · rename_i hd1
      rw [if_pos hd1] at hc
      have hnum := h.num (digitsE u k - k) k 0 (by omega)
      have hat : letterB (atI s ((o + digitsE u k : Nat) : Int)) = letterB (atI u (digitsE u k : Nat)) := by
        by_cases hlt : digitsE u k < u.size
        · rw [h.at' _ hlt]
        · rw [show digitsE u k = u.size by omega, stop_letter hs, atI, if_neg (by omega)]
          decide
      rw [show o + digitsE u k - (o + k) = digitsE u k - k by omega, ← hnum, hat]
      split
      · rename_i h3; rw [if_pos h3] at hc; exact absurd hc (by simp)
      · rename_i h3
        rw [if_neg h3] at hc
        split
        · rename_i h4; rw [if_pos h4] at hc; exact absurd hc (by simp)
        · simp [Nx.sh]; omega
    · rename_i hd1
      rw [if_neg hd1] at hc
      split
      · rename_i h3; rw [if_pos h3] at hc; exact absurd hc (by simp)
      · simp [Nx.sh]; omega
theorem Sub.tok_dn (k : Nat) (hk : k < u.size) (hc : (tokR s (o + k)).code = 0) (hf : (tokR s (o + k)).fin ≤ o + u.size) : tokR s (o + k) = (tokR u k).sh o := by
  have hl := h.le
  have hb := h.bt k hk
  have n1 : o + k ≤ nameE s (o + k) ∧ nameE s (o + k) ≤ s.size := spanEnd_bounds (nameP s) s.size _ _ rfl (by omega)
  have d1 : o + k ≤ digitsE s (o + k) ∧ digitsE s (o + k) ≤ s.size := spanEnd_bounds (fun i => digitB (btF s i)) s.size _ _ rfl (by omega)
  unfold tokR at hc hf ⊢
  rw [← hb] at hc hf ⊢
  split
  · rename_i hl1
    rw [if_pos hl1] at hf
    have hf' : nameE s (o + k) ≤ o + u.size := by simp only at hf; omega
    have hn := (h.name k hk).1 hf'
    rw [hn, h.ext k (nameE s (o + k) - o) (by omega) (by omega), show o + (nameE s (o + k) - o) = nameE s (o + k) by omega]
    simp only [Nx.sh, Nx.mk.injEq]
    refine ⟨trivial, trivial, ?_, trivial, ?_, trivial, trivial⟩ <;> omega
  · rename_i hl1
    rw [if_neg hl1] at hc hf
    split
    · rename_i hd1
      rw [if_pos hd1] at hc hf
      split at hc
      · exact absurd hc (by simp)
      · rename_i h3
        rw [if_neg h3] at hf
        split at hc
        · exact absurd hc (by simp)
        · rename_i h4
          rw [if_neg h4] at hf
          have hf' : digitsE s (o + k) ≤ o + u.size := by simp only at hf; omega
          have hd := (h.digits k hk).1 hf'
          have hnum := h.num (digitsE s (o + k) - o - k) k 0 (by omega)
          rw [show digitsE s (o + k) - o - k = digitsE s (o + k) - (o + k) by omega] at hnum
          rw [if_neg h3, if_neg h4, hd, show digitsE s (o + k) - o - k = digitsE s (o + k) - (o + k) by omega, hnum, if_neg h3]
          have hat : ¬ letterB (atI u ((digitsE s (o + k) - o : Nat) : Int)) = true := by
            by_cases hlt : digitsE s (o + k) - o < u.size
            · rw [h.at' _ hlt, show o + (digitsE s (o + k) - o) = digitsE s (o + k) by omega]
              exact h4
            · rw [atI, if_neg (by omega)]; decide
          rw [if_neg hat, h.ext k (digitsE s (o + k) - o) (by omega) (by omega), show o + (digitsE s (o + k) - o) = digitsE s (o + k) by omega]
          simp only [Nx.sh, Nx.mk.injEq]
          refine ⟨trivial, trivial, ?_, trivial, ?_, trivial, trivial⟩ <;> omega
    · rename_i hd1
      rw [if_neg hd1] at hc hf
      split at hc
      · exact absurd hc (by simp)
      · rename_i h3
        rw [if_neg h3] at hf
        have hg := h.sign_dn k hk (by omega) (by simp only at hf; omega)
        rw [if_neg h3, hg, if_neg h3]
        simp only [Nx.sh, Nx.mk.injEq]
        refine ⟨trivial, trivial, ?_, trivial, ?_, trivial, trivial⟩ <;> omega
end
end Go.VM

namespace Go.VM
open Go.Proofs Go
set_option maxRecDepth 100000
set_option linter.unusedVariables false
set_option linter.unusedSimpArgs false

/-- a stretch of a source, read without a fault: its tokens and its comments -/
inductive Toks (s : ByteArray) : Nat → Nat → List Nx → List (Int × Int) → Prop
  | nil (k : Nat) : Toks s k k [] []
  | blank (k e : Nat) (T : List Nx) (C : List (Int × Int)) (hk : k < s.size) (hb : blankB (btF s k) = true) (h : Toks s (k + 1) e T C) : Toks s k e T C
  | com (k e e' : Nat) (T : List Nx) (C : List (Int × Int)) (hk : k < s.size) (hb : blankB (btF s k) = false) (hc : comB s k = true) (he : comE s k = e') (h : Toks s e' e T C) : Toks s k e T (((k : Int), (e' : Int)) :: C)
  | tok (k e e' : Nat) (T : List Nx) (C : List (Int × Int)) (hk : k < s.size) (hb : blankB (btF s k) = false) (hc : comB s k = false) (h0 : (tokR s k).code = 0) (he : (tokR s k).fin = e') (h : Toks s e' e T C) : Toks s k e (tokR s k :: T) C

theorem com_two (s : ByteArray) (k : Nat) (hk : k < s.size) (hc : comB s k = true) : k + 1 < s.size ∧ (0 ≤ comE s k → (k : Int) + 2 ≤ comE s k ∧ comE s k ≤ s.size) := by
  have hb := comE_bounds s k hk hc
  simp only [comB, Bool.or_eq_true] at hc
  have h1 : k + 1 < s.size := by
    rcases hc with hc | hc <;> (simp [twoB] at hc; exact hc.1.1)
  refine ⟨h1, fun h0 => ?_⟩
  unfold comE at hb h0 ⊢
  by_cases h2 : twoB s k 45 45 = true
  · rw [if_pos h2] at hb h0 ⊢
    have hh : btF s k = 45 ∧ btF s ((k : Int) + 1) = 45 := by
      simp [twoB] at h2
      exact ⟨h2.1.2, h2.2⟩
    have e1 : lineE s k = lineE s (k + 1 + 1) := by
      rw [lineE, spanEnd, if_pos hk, if_pos (by simp [hh.1]), spanEnd, if_pos h1, if_pos (by simp [hh.2])]
      rfl
    have := spanEnd_bounds (fun i => btF s i != 10) s.size _ (k + 1 + 1) rfl (by omega)
    rw [e1]
    unfold lineE
    omega
  · rw [if_neg h2] at hb h0 ⊢
    have h3 := hc.resolve_left h2
    rw [if_pos h3] at hb h0 ⊢
    rw [blkE, if_pos h1, if_pos h3] at h0 hb ⊢
    have := blkE_bounds s _ (k + 2) (0 + 1) rfl
    omega

theorem Toks.le {s : ByteArray} {k e : Nat} {T : List Nx} {C : List (Int × Int)} (h : Toks s k e T C) : k ≤ e ∧ (k ≤ s.size → e ≤ s.size) := by
  induction h with
  | nil k => omega
  | blank k e T C hk hb h ih => omega
  | com k e e' T C hk hb hc he h ih =>
    have := (com_two s k hk hc).2 (by omega)
    omega
  | tok k e e' T C hk hb hc h0 he h ih =>
    have := (tok_shape s k hk).2.resolve_left (by simp [h0])
    omega

theorem Toks.app {s : ByteArray} {k e e2 : Nat} {T T2 : List Nx} {C C2 : List (Int × Int)} (h : Toks s k e T C) (h2 : Toks s e e2 T2 C2) : Toks s k e2 (T ++ T2) (C ++ C2) := by
  induction h with
  | nil k => exact h2
  | blank k e T C hk hb h ih => exact .blank _ _ _ _ hk hb (ih h2)
  | com k e e' T C hk hb hc he h ih => exact .com _ _ e' _ _ hk hb hc he (ih h2)
  | tok k e e' T C hk hb hc h0 he h ih => exact .tok _ _ e' _ _ hk hb hc h0 he (ih h2)

theorem toks_run (s : ByteArray) {k e : Nat} {T : List Nx} {C : List (Int × Int)} (h : Toks s k e T C) : e = s.size → ∀ f T0 C0, s.size - k ≤ f → T0.length + T.length ≤ 6000 → runT s f k T0 C0 = (T0 ++ T, C0 ++ C, 0, 0) := by
  induction h with
  | nil k =>
    intro he f T0 C0 hf hl
    cases f with
    | zero => simp [runT]
    | succ f => rw [runT, if_neg (by omega)]; simp
  | blank k e T C hk hb h ih =>
    intro he f T0 C0 hf hl
    obtain ⟨f, rfl⟩ : ∃ f', f = f' + 1 := ⟨f - 1, by omega⟩
    have e1 : nextR s k = { fin := k + 1 } := by rw [nextR, if_pos hb]
    rw [runT, if_pos hk, e1]
    simp only [ne_eq, not_true_eq_false, if_false, Bool.false_eq_true]
    exact ih he f T0 C0 (by omega) hl
  | com k e e' T C hk hb hc hce h ih =>
    intro he f T0 C0 hf hl
    have h2 := (com_two s k hk hc).2 (by omega)
    obtain ⟨f, rfl⟩ : ∃ f', f = f' + 1 := ⟨f - 1, by omega⟩
    have e1 : nextR s k = { com := true, fin := e' } := by rw [nextR, if_neg (by simp [hb]), if_pos hc, if_neg (by omega), hce]
    rw [runT, if_pos hk, e1]
    simp only [ne_eq, not_true_eq_false, if_false, if_true, Int.toNat_natCast]
    rw [ih he f T0 _ (by omega) hl]
    simp
  | tok k e e' T C hk hb hc h0 hfin h ih =>
    intro he f T0 C0 hf hl
    obtain ⟨t1, t2⟩ := tok_shape s k hk
    have t2 := t2.resolve_left (by simp [h0])
    obtain ⟨f, rfl⟩ : ∃ f', f = f' + 1 := ⟨f - 1, by omega⟩
    have e1 : nextR s k = tokR s k := by rw [nextR, if_neg (by simp [hb]), if_neg (by simp [hc])]
    rw [List.length_cons] at hl
    rw [runT, if_pos hk, e1, if_neg (by simp [h0]), if_neg (by simp [t1]), if_pos t2.1, if_neg (by omega), hfin, Int.toNat_natCast, ih he f _ C0 (by omega) (by simp; omega)]
    simp

theorem run_toks (s : ByteArray) : ∀ (f k : Nat) (T0 : List Nx) (C0 : List (Int × Int)) (T : List Nx) (C : List (Int × Int)) (a : Int), k ≤ s.size → s.size - k ≤ f → T0.length ≤ 6000 → runT s f k T0 C0 = (T, C, 0, a) →
    ∃ T1 C1, T = T0 ++ T1 ∧ C = C0 ++ C1 ∧ Toks s k s.size T1 C1 ∧ T.length ≤ 6000
  | 0, k, T0, C0, T, C, a, hk, hf, hl, hr => by
    simp only [runT, Prod.mk.injEq] at hr
    obtain ⟨rfl, rfl, _⟩ := hr
    refine ⟨[], [], by simp, by simp, ?_, hl⟩
    rw [show k = s.size by omega]
    exact .nil _
  | f + 1, k, T0, C0, T, C, a, hk, hf, hl, hr => by
    rw [runT] at hr
    by_cases hlt : k < s.size
    · rw [if_pos hlt] at hr
      by_cases hcode : (nextR s k).code = 0
      · rw [if_neg (by simp [hcode])] at hr
        unfold nextR at hr hcode
        cases hb : blankB (btF s k) with
        | true =>
          simp only [hb, if_true, Bool.false_eq_true, if_false, ne_eq, not_true_eq_false] at hr
          have e1 : ((k : Int) + 1).toNat = k + 1 := by omega
          rw [e1] at hr
          obtain ⟨T1, C1, h1, h2, h3, h4⟩ := run_toks s f (k + 1) T0 C0 T C a (by omega) (by omega) hl hr
          exact ⟨T1, C1, h1, h2, .blank _ _ _ _ hlt hb h3, h4⟩
        | false =>
          cases hc : comB s k with
          | true =>
            by_cases hn : comE s k < 0
            · simp [hb, hc, hn] at hcode
            · have h2 := (com_two s k hlt hc).2 (by omega)
              obtain ⟨e', he'⟩ : ∃ e' : Nat, comE s k = e' := ⟨(comE s k).toNat, by omega⟩
              simp only [hb, hc, hn, if_true, Bool.false_eq_true, if_false] at hr
              rw [he', Int.toNat_natCast] at hr
              obtain ⟨T1, C1, h1, h2, h3, h4⟩ := run_toks s f e' T0 _ T C a (by omega) (by omega) hl hr
              exact ⟨T1, _, h1, by rw [h2, List.append_assoc]; rfl, .com _ _ e' _ _ hlt hb hc he' h3, h4⟩
          | false =>
            simp only [hb, hc, Bool.false_eq_true, if_false] at hr hcode
            obtain ⟨t1, t2⟩ := tok_shape s k hlt
            have t2 := t2.resolve_left (by simp [hcode])
            rw [if_neg (by simp [t1]), if_pos t2.1] at hr
            by_cases h6 : T0.length = 6000
            · rw [if_pos h6] at hr
              simp at hr
            · rw [if_neg h6] at hr
              obtain ⟨e', he'⟩ : ∃ e' : Nat, (tokR s k).fin = e' := ⟨(tokR s k).fin.toNat, by omega⟩
              rw [he', Int.toNat_natCast] at hr
              obtain ⟨T1, C1, h1, h2, h3, h4⟩ := run_toks s f e' _ C0 T C a (by omega) (by omega) (by simp; omega) hr
              exact ⟨_, C1, by rw [h1, List.append_assoc]; rfl, h2, .tok _ _ e' _ _ hlt hb hc hcode he' h3, h4⟩
      · rw [if_pos hcode] at hr
        simp only [Prod.mk.injEq] at hr
        exact absurd hr.2.2.1 hcode
    · rw [if_neg hlt] at hr
      simp only [Prod.mk.injEq] at hr
      obtain ⟨rfl, rfl, _⟩ := hr
      refine ⟨[], [], by simp, by simp, ?_, hl⟩
      rw [show k = s.size by omega]
      exact .nil _

theorem split_toks (s : ByteArray) (h : (splitS s).2.2.1 = 0) : Toks s 0 s.size (splitS s).1 (splitS s).2.1 ∧ s.size ≤ 16000 ∧ (splitS s).1.length ≤ 6000 := by
  unfold splitS at h ⊢
  by_cases hz : s.size > 16000
  · rw [if_pos hz] at h; simp at h
  · rw [if_neg hz] at h ⊢
    obtain ⟨T1, C1, h1, h2, h3, h4⟩ := run_toks s s.size 0 [] [] (runT s s.size 0 [] []).1 (runT s s.size 0 [] []).2.1 (runT s s.size 0 [] []).2.2.2 (by omega) (by omega) (by simp) (by rw [← h])
    rw [List.nil_append] at h1 h2
    exact ⟨by rw [h1, h2]; exact h3, by omega, h4⟩
theorem toks_split {s : ByteArray} {T : List Nx} {C : List (Int × Int)} (h : Toks s 0 s.size T C) (h1 : s.size ≤ 16000) (h2 : T.length ≤ 6000) : splitS s = (T, C, 0, 0) := by
  rw [splitS, if_neg (by omega), toks_run s h rfl s.size [] [] (by omega) (by simpa using h2)]
  simp

def shC (o : Nat) (c : Int × Int) : Int × Int := (c.1 + o, c.2 + o)

section
variable {s u : ByteArray} {o : Nat} (h : Sub s u o)
include h
theorem Sub.comB_up (hs : Stop s u o) (k : Nat) (hk : k < u.size) : comB s (o + k) = comB u k := by
  by_cases hlt : k + 1 < u.size
  · simp only [comB, h.two k hlt]
  · have e1 : ∀ x y, twoB u k x y = false := fun x y => by simp [twoB, hlt]
    have e2 : ∀ x, twoB s (o + k) x 45 = false := fun x => by
      rcases hs with e | hb
      · simp [twoB, show ¬ o + k + 1 < s.size by omega]
      · have := (blank_no hb).2.2.2.2.2.2.1
        rw [show ((o + u.size : Nat) : Int) = ((o + k : Nat) : Int) + 1 by omega] at this
        simp only [twoB]
        rw [show (btF s (((o + k : Nat) : Int) + 1) == 45) = false by simpa using this]
        simp
    simp only [comB, e1, e2]
theorem Sub.comB_dn (k : Nat) (hk : k < u.size) (hc : comB s (o + k) = false) : comB u k = false := by
  by_cases hlt : k + 1 < u.size
  · simp only [comB, h.two k hlt]; exact hc
  · simp [comB, twoB, hlt]

theorem Sub.up (hs : Stop s u o) {k e : Nat} {T : List Nx} {C : List (Int × Int)} (ht : Toks u k e T C) : (C = [] ∨ o + u.size = s.size ∨ btF s ((o + u.size : Nat) : Int) = 10) → Toks s (o + k) (o + e) (T.map (·.sh o)) (C.map (shC o)) := by
  have hl := h.le
  induction ht with
  | nil k => intro _; exact .nil _
  | blank k e T C hk hb ht ih =>
    intro hn
    exact .blank _ _ _ _ (by omega) (by rw [← h.bt k hk]; exact hb) (ih hn)
  | com k e e' T C hk hb hc he ht ih =>
    intro hn
    have hn : o + u.size = s.size ∨ btF s ((o + u.size : Nat) : Int) = 10 := by
      rcases hn with hn | hn
      · cases hn
      · exact hn
    obtain ⟨c1, c2⟩ := com_two u k hk hc
    have c2 := c2 (by omega)
    have hce : comE s (o + k) = ((o + e' : Nat) : Int) := by
      unfold comE at he ⊢
      rw [← h.two k c1, ← h.two k c1]
      split
      · rename_i h2
        rw [if_pos h2] at he
        rw [(h.line k hk).2 hn]
        omega
      · rename_i h2
        rw [if_neg h2] at he
        have h3 : twoB u k 123 45 = true := by simpa [comB, h2] using hc
        rw [if_pos h3] at he ⊢
        have := (h.blk _ k 0 rfl).2 (by omega)
        omega
    have := Toks.com (o + k) (o + e) (o + e') _ _ (by omega) (by rw [← h.bt k hk]; exact hb) (by rw [h.comB_up hs k hk]; exact hc) hce (ih (.inr hn))
    have e1 : shC o ((k : Int), (e' : Int)) = (((o + k : Nat) : Int), ((o + e' : Nat) : Int)) := by simp [shC]; omega
    rw [List.map_cons, e1]
    exact this
  | tok k e e' T C hk hb hc h0 he ht ih =>
    intro hn
    have ht2 := h.tok_up hs k hk h0
    have := Toks.tok (o + k) (o + e) (o + e') _ _ (by omega) (by rw [← h.bt k hk]; exact hb) (by rw [h.comB_up hs k hk]; exact hc) (by rw [ht2]; exact h0) (by rw [ht2]; simp only [Nx.sh]; omega) (ih hn)
    rw [ht2] at this
    exact this

theorem Sub.dn {k0 e0 : Nat} {T : List Nx} {C : List (Int × Int)} (ht : Toks s k0 e0 T C) : ∀ k e, k0 = o + k → e0 = o + e → e ≤ u.size → ∃ T' C', T = T'.map (·.sh o) ∧ C = C'.map (shC o) ∧ Toks u k e T' C' := by
  have hl := h.le
  induction ht with
  | nil k =>
    intro k1 e1 h1 h2 h3
    obtain rfl : k1 = e1 := by omega
    exact ⟨[], [], rfl, rfl, .nil _⟩
  | blank k e T C hk hb ht ih =>
    intro k1 e1 h1 h2 h3
    have := ht.le
    subst h1
    obtain ⟨T', C', a1, a2, a3⟩ := ih (k1 + 1) e1 (by omega) h2 h3
    exact ⟨T', C', a1, a2, .blank _ _ _ _ (by omega) (by rw [h.bt k1 (by omega)]; exact hb) a3⟩
  | com k e e' T C hk hb hc he ht ih =>
    intro k1 e1 h1 h2 h3
    have hle := ht.le
    subst h1
    obtain ⟨c1, c2⟩ := com_two s _ hk hc
    have c2 := c2 (by omega)
    have hk1 : k1 + 1 < u.size := by omega
    obtain ⟨T', C', a1, a2, a3⟩ := ih (e' - o) e1 (by omega) h2 h3
    have hcu : comB u k1 = true := by simp only [comB, h.two k1 hk1]; exact hc
    have hce : comE u k1 = ((e' - o : Nat) : Int) := by
      unfold comE at he ⊢
      rw [h.two k1 hk1, h.two k1 hk1]
      split
      · rename_i h2
        rw [if_pos h2] at he
        rw [(h.line k1 (by omega)).1 (by omega)]
        omega
      · rename_i h2
        rw [if_neg h2] at he
        have h3 : twoB s (o + k1) 123 45 = true := by simpa [comB, h2] using hc
        rw [if_pos h3] at he ⊢
        exact (h.blk _ k1 0 rfl).1 e' he (by omega)
    refine ⟨T', _, a1, ?_, .com _ _ (e' - o) _ _ (by omega) (by rw [h.bt k1 (by omega)]; exact hb) hcu hce a3⟩
    have e1 : shC o ((k1 : Int), ((e' - o : Nat) : Int)) = (((o + k1 : Nat) : Int), (e' : Int)) := by
      have : o ≤ e' := by omega
      simp only [shC, Prod.mk.injEq]
      omega
    rw [List.map_cons, e1, a2]
  | tok k e e' T C hk hb hc h0 he ht ih =>
    intro k1 e1 h1 h2 h3
    have hle := ht.le
    subst h1
    have t2 := (tok_shape s _ hk).2.resolve_left (by simp [h0])
    obtain ⟨T', C', a1, a2, a3⟩ := ih (e' - o) e1 (by omega) h2 h3
    have htk := h.tok_dn k1 (by omega) h0 (by omega)
    have hf : (tokR u k1).fin = ((e' - o : Nat) : Int) := by
      have := congrArg Nx.fin htk
      simp only [Nx.sh] at this
      omega
    have hc0 : (tokR u k1).code = 0 := by
      have := congrArg Nx.code htk
      simp only [Nx.sh] at this
      omega
    refine ⟨tokR u k1 :: T', C', by rw [a1, htk]; rfl, a2, .tok _ _ (e' - o) _ _ (by omega) (by rw [h.bt k1 (by omega)]; exact hb) (h.comB_dn k1 (by omega) hc) hc0 hf a3⟩
end
end Go.VM

namespace Go.VM
open Go.Proofs Go
set_option maxRecDepth 100000
set_option linter.unusedVariables false
set_option linter.unusedSimpArgs false

theorem run_fault (s : ByteArray) : ∀ (f k : Nat) (T : List Nx) (C : List (Int × Int)), (runT s f k T C).2.2.1 ≠ 0 → (runT s f k T C).1 = []
  | 0, k, T, C, h => by simp [runT] at h
  | f + 1, k, T, C, h => by
    unfold runT at h ⊢
    split
    · rename_i hk
      rw [if_pos hk] at h
      split
      · rfl
      · rename_i h2
        rw [if_neg h2] at h
        split
        · rename_i h3; rw [if_pos h3] at h; exact run_fault s f _ _ _ h
        · rename_i h3
          rw [if_neg h3] at h
          split
          · rename_i h4
            rw [if_pos h4] at h
            split
            · rfl
            · rename_i h5; rw [if_neg h5] at h; exact run_fault s f _ _ _ h
          · rename_i h4; rw [if_neg h4] at h; exact run_fault s f _ _ _ h
    · rename_i hk; rw [if_neg hk] at h; simp at h
theorem split_fault (s : ByteArray) (h : (splitS s).2.2.1 ≠ 0) : (splitS s).1.length = 0 := by
  unfold splitS at h ⊢
  split
  · rfl
  · rename_i hz; rw [if_neg hz] at h; rw [run_fault s _ _ _ _ h]; rfl

theorem Toks.gap {s : ByteArray} {k e : Nat} {T : List Nx} {C : List (Int × Int)} (h : Toks s k e T C) : k ≤ s.size → ∀ i, i ≤ T.length → ∃ a b C', Toks s a b [] C' ∧ b ≤ e ∧ k ≤ a ∧ (i = 0 → a = k) ∧ (0 < i → (a : Int) = possL T (i - 1) + (textsL T (i - 1)).size) ∧ (i = T.length → b = e) ∧
    (i < T.length → (b : Int) = possL T i ∧ 1 ≤ (textsL T i).size ∧ b + (textsL T i).size ≤ e ∧ s.extract b (b + (textsL T i).size) = textsL T i) := by
  induction h with
  | nil k =>
    intro hk i hi
    exact ⟨k, k, [], .nil _, by omega, by omega, fun _ => rfl, fun h => by simp at hi; omega, fun _ => rfl, fun h => absurd h (by simp)⟩
  | blank k e T C hk hb h ih =>
    intro _ i hi
    obtain ⟨a, b, C', h1, h2, h3, h4, h5⟩ := ih (by omega) i hi
    by_cases hi0 : i = 0
    · have := h4 hi0
      subst this
      exact ⟨k, b, C', .blank _ _ _ _ hk hb h1, h2, by omega, fun _ => rfl, fun h => by omega, h5.2⟩
    · exact ⟨a, b, C', h1, h2, by omega, fun h => absurd h hi0, h5⟩
  | com k e e' T C hk hb hc he h ih =>
    intro _ i hi
    have h2 := (com_two s k hk hc).2 (by omega)
    obtain ⟨a, b, C', h1, h2, h3, h4, h5⟩ := ih (by omega) i hi
    by_cases hi0 : i = 0
    · have := h4 hi0
      subst this
      exact ⟨k, b, _, .com _ _ a _ _ hk hb hc he h1, h2, by omega, fun _ => rfl, fun h => by omega, h5.2⟩
    · exact ⟨a, b, C', h1, h2, by omega, fun h => absurd h hi0, h5⟩
  | tok k e e' T C hk hb hc h0 he h ih =>
    intro _ i hi
    have t2 := (tok_shape s k hk).2.resolve_left (by simp [h0])
    have hle := h.le
    match i, hi with
    | 0, _ =>
      have hx : s.extract k (k + (tokR s k).text.size) = (tokR s k).text := by
        have := t2.2.2.2.2.2.2
        rw [show (tokR s k).fin.toNat = k + (tokR s k).text.size by omega] at this
        exact this.symm
      exact ⟨k, k, [], .nil _, by omega, by omega, fun _ => rfl, fun h => absurd h (by omega), fun h => absurd h (by simp), fun _ => ⟨t2.2.2.2.1.symm, t2.2.2.2.2.1, by show k + (tokR s k).text.size ≤ e; omega, hx⟩⟩
    | i + 1, hi =>
      obtain ⟨a, b, C', h1, h2, h3, h4, h5, h6, h7⟩ := ih (by omega) i (by simpa using hi)
      refine ⟨a, b, C', h1, h2, by omega, fun h => absurd h (by omega), fun _ => ?_, fun h => h6 (by simpa using h), fun h => h7 (by simpa using h)⟩
      cases i with
      | zero =>
        have := h4 rfl
        show (a : Int) = (tokR s k).pos + (tokR s k).text.size
        omega
      | succ i => exact h5 (by omega)

theorem gap_split {s : ByteArray} {a b : Nat} {C : List (Int × Int)} (h : Toks s a b [] C) (hb : b ≤ s.size) (hs : s.size ≤ 16000) : ∃ C', splitS (s.extract a b) = ([], C', 0, 0) := by
  have hle := h.le
  have hz : (s.extract a b).size = b - a := by simp [ByteArray.size_extract]; omega
  obtain ⟨T', C', h1, h2, h3⟩ := (sub_extract s a b hle.1 hb).dn h 0 (b - a) (by omega) (by omega) (by omega)
  have : T' = [] := by cases T' with | nil => rfl | cons => simp at h1
  subst this
  refine ⟨C', toks_split ?_ (by omega) (by simp)⟩
  rw [hz]; exact h3

end Go.VM
