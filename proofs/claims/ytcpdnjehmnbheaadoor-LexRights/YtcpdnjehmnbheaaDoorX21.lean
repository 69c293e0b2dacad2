/- Contracts of the functions that the law reaches: part of the proof (X21). -/
import Derived.Test.YtcpdnjehmnbheaaDoorX16
import Derived.Test.YtcpdnjehmnbheaaDoorX20
namespace Go.VM
open Go.Proofs Go
set_option maxRecDepth 100000
set_option linter.unusedVariables false
set_option linter.unusedSimpArgs false

theorem run_fault (s : ByteArray) : ∀ (f k : Nat) (T : List Nx) (C : List (Int × Int)), (runT s f k T C).2.2.1 ≠ 0 → (runT s f k T C).1 = []
  | 0, k, T, C, h => by simp [runT] at h
  | f + 1, k, T, C, h => by
    unfold runT at h ⊢
    split
    · rename_i hk
      rw [if_pos hk] at h
      split
      · rfl
      · rename_i h2
        rw [if_neg h2] at h
        split
        · rename_i h3; rw [if_pos h3] at h; exact run_fault s f _ _ _ h
        · rename_i h3
          rw [if_neg h3] at h
          split
          · rename_i h4
            rw [if_pos h4] at h
            split
            · rfl
            · rename_i h5; rw [if_neg h5] at h; exact run_fault s f _ _ _ h
          · rename_i h4; rw [if_neg h4] at h; exact run_fault s f _ _ _ h
    · rename_i hk; rw [if_neg hk] at h; simp at h
theorem split_fault (s : ByteArray) (h : (splitS s).2.2.1 ≠ 0) : (splitS s).1.length = 0 := by
  unfold splitS at h ⊢
  split
  · rfl
  · rename_i hz; rw [if_neg hz] at h; rw [run_fault s _ _ _ _ h]; rfl

theorem Toks.gap {s : ByteArray} {k e : Nat} {T : List Nx} {C : List (Int × Int)} (h : Toks s k e T C) : k ≤ s.size → ∀ i, i ≤ T.length → ∃ a b C', Toks s a b [] C' ∧ b ≤ e ∧ k ≤ a ∧ (i = 0 → a = k) ∧ (0 < i → (a : Int) = possL T (i - 1) + (textsL T (i - 1)).size) ∧ (i = T.length → b = e) ∧
    (i < T.length → (b : Int) = possL T i ∧ 1 ≤ (textsL T i).size ∧ b + (textsL T i).size ≤ e ∧ s.extract b (b + (textsL T i).size) = textsL T i) := by
  induction h with
  | nil k =>
    intro hk i hi
    exact ⟨k, k, [], .nil _, by omega, by omega, fun _ => rfl, fun h => by simp at hi; omega, fun _ => rfl, fun h => absurd h (by simp)⟩
  | blank k e T C hk hb h ih =>
    intro _ i hi
    obtain ⟨a, b, C', h1, h2, h3, h4, h5⟩ := ih (by omega) i hi
    by_cases hi0 : i = 0
    · have := h4 hi0
      subst this
      exact ⟨k, b, C', .blank _ _ _ _ hk hb h1, h2, by omega, fun _ => rfl, fun h => by omega, h5.2⟩
    · exact ⟨a, b, C', h1, h2, by omega, fun h => absurd h hi0, h5⟩
  | com k e e' T C hk hb hc he h ih =>
    intro _ i hi
    have h2 := (com_two s k hk hc).2 (by omega)
    obtain ⟨a, b, C', h1, h2, h3, h4, h5⟩ := ih (by omega) i hi
    by_cases hi0 : i = 0
    · have := h4 hi0
      subst this
      exact ⟨k, b, _, .com _ _ a _ _ hk hb hc he h1, h2, by omega, fun _ => rfl, fun h => by omega, h5.2⟩
    · exact ⟨a, b, C', h1, h2, by omega, fun h => absurd h hi0, h5⟩
  | tok k e e' T C hk hb hc h0 he h ih =>
    intro _ i hi
    have t2 := (tok_shape s k hk).2.resolve_left (by simp [h0])
    have hle := h.le
    match i, hi with
    | 0, _ =>
      have hx : s.extract k (k + (tokR s k).text.size) = (tokR s k).text := by
        have := t2.2.2.2.2.2.2
        rw [show (tokR s k).fin.toNat = k + (tokR s k).text.size by omega] at this
        exact this.symm
      exact ⟨k, k, [], .nil _, by omega, by omega, fun _ => rfl, fun h => absurd h (by omega), fun h => absurd h (by simp), fun _ => ⟨t2.2.2.2.1.symm, t2.2.2.2.2.1, by show k + (tokR s k).text.size ≤ e; omega, hx⟩⟩
    | i + 1, hi =>
      obtain ⟨a, b, C', h1, h2, h3, h4, h5, h6, h7⟩ := ih (by omega) i (by simpa using hi)
      refine ⟨a, b, C', h1, h2, by omega, fun h => absurd h (by omega), fun _ => ?_, fun h => h6 (by simpa using h), fun h => h7 (by simpa using h)⟩
      cases i with
      | zero =>
        have := h4 rfl
        show (a : Int) = (tokR s k).pos + (tokR s k).text.size
        omega
      | succ i => exact h5 (by omega)

theorem gap_split {s : ByteArray} {a b : Nat} {C : List (Int × Int)} (h : Toks s a b [] C) (hb : b ≤ s.size) (hs : s.size ≤ 16000) : ∃ C', splitS (s.extract a b) = ([], C', 0, 0) := by
  have hle := h.le
  have hz : (s.extract a b).size = b - a := by simp [ByteArray.size_extract]; omega
  obtain ⟨T', C', h1, h2, h3⟩ := (sub_extract s a b hle.1 hb).dn h 0 (b - a) (by omega) (by omega) (by omega)
  have : T' = [] := by cases T' with | nil => rfl | cons => simp at h1
  subst this
  refine ⟨C', toks_split ?_ (by omega) (by simp)⟩
  rw [hz]; exact h3

end Go.VM
