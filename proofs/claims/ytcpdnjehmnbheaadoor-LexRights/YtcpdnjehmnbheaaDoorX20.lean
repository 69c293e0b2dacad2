/- Contracts of the functions that the law reaches: part of the proof (X20). -/
import Derived.Test.YtcpdnjehmnbheaaDoorX19
namespace Go.VM
open Go.Proofs Go
set_option maxRecDepth 100000
set_option linter.unusedVariables false
set_option linter.unusedSimpArgs false

/-- a stretch of a source, read without a fault: its tokens and its comments -/
inductive Toks (s : ByteArray) : Nat → Nat → List Nx → List (Int × Int) → Prop
  | nil (k : Nat) : Toks s k k [] []
  | blank (k e : Nat) (T : List Nx) (C : List (Int × Int)) (hk : k < s.size) (hb : blankB (btF s k) = true) (h : Toks s (k + 1) e T C) : Toks s k e T C
  | com (k e e' : Nat) (T : List Nx) (C : List (Int × Int)) (hk : k < s.size) (hb : blankB (btF s k) = false) (hc : comB s k = true) (he : comE s k = e') (h : Toks s e' e T C) : Toks s k e T (((k : Int), (e' : Int)) :: C)
  | tok (k e e' : Nat) (T : List Nx) (C : List (Int × Int)) (hk : k < s.size) (hb : blankB (btF s k) = false) (hc : comB s k = false) (h0 : (tokR s k).code = 0) (he : (tokR s k).fin = e') (h : Toks s e' e T C) : Toks s k e (tokR s k :: T) C

theorem com_two (s : ByteArray) (k : Nat) (hk : k < s.size) (hc : comB s k = true) : k + 1 < s.size ∧ (0 ≤ comE s k → (k : Int) + 2 ≤ comE s k ∧ comE s k ≤ s.size) := by
  have hb := comE_bounds s k hk hc
  simp only [comB, Bool.or_eq_true] at hc
  have h1 : k + 1 < s.size := by
    rcases hc with hc | hc <;> (simp [twoB] at hc; exact hc.1.1)
  refine ⟨h1, fun h0 => ?_⟩
  unfold comE at hb h0 ⊢
  by_cases h2 : twoB s k 45 45 = true
  · rw [if_pos h2] at hb h0 ⊢
    have hh : btF s k = 45 ∧ btF s ((k : Int) + 1) = 45 := by
      simp [twoB] at h2
      exact ⟨h2.1.2, h2.2⟩
    have e1 : lineE s k = lineE s (k + 1 + 1) := by
      rw [lineE, spanEnd, if_pos hk, if_pos (by simp [hh.1]), spanEnd, if_pos h1, if_pos (by simp [hh.2])]
      rfl
    have := spanEnd_bounds (fun i => btF s i != 10) s.size _ (k + 1 + 1) rfl (by omega)
    rw [e1]
    unfold lineE
    omega
  · rw [if_neg h2] at hb h0 ⊢
    have h3 := hc.resolve_left h2
    rw [if_pos h3] at hb h0 ⊢
    rw [blkE, if_pos h1, if_pos h3] at h0 hb ⊢
    have := blkE_bounds s _ (k + 2) (0 + 1) rfl
    omega

theorem Toks.le {s : ByteArray} {k e : Nat} {T : List Nx} {C : List (Int × Int)} (h : Toks s k e T C) : k ≤ e ∧ (k ≤ s.size → e ≤ s.size) := by
  induction h with
  | nil k => omega
  | blank k e T C hk hb h ih => omega
  | com k e e' T C hk hb hc he h ih =>
    have := (com_two s k hk hc).2 (by omega)
    omega
  | tok k e e' T C hk hb hc h0 he h ih =>
    have := (tok_shape s k hk).2.resolve_left (by simp [h0])
    omega

theorem Toks.app {s : ByteArray} {k e e2 : Nat} {T T2 : List Nx} {C C2 : List (Int × Int)} (h : Toks s k e T C) (h2 : Toks s e e2 T2 C2) : Toks s k e2 (T ++ T2) (C ++ C2) := by
  induction h with
  | nil k => exact h2
  | blank k e T C hk hb h ih => exact .blank _ _ _ _ hk hb (ih h2)
  | com k e e' T C hk hb hc he h ih => exact .com _ _ e' _ _ hk hb hc he (ih h2)
  | tok k e e' T C hk hb hc h0 he h ih => exact .tok _ _ e' _ _ hk hb hc h0 he (ih h2)

theorem toks_run (s : ByteArray) {k e : Nat} {T : List Nx} {C : List (Int × Int)} (h : Toks s k e T C) : e = s.size → ∀ f T0 C0, s.size - k ≤ f → T0.length + T.length ≤ 6000 → runT s f k T0 C0 = (T0 ++ T, C0 ++ C, 0, 0) := by
  induction h with
  | nil k =>
    intro he f T0 C0 hf hl
    cases f with
    | zero => simp [runT]
    | succ f => rw [runT, if_neg (by omega)]; simp
  | blank k e T C hk hb h ih =>
    intro he f T0 C0 hf hl
    obtain ⟨f, rfl⟩ : ∃ f', f = f' + 1 := ⟨f - 1, by omega⟩
    have e1 : nextR s k = { fin := k + 1 } := by rw [nextR, if_pos hb]
    rw [runT, if_pos hk, e1]
    simp only [ne_eq, not_true_eq_false, if_false, Bool.false_eq_true]
    exact ih he f T0 C0 (by omega) hl
  | com k e e' T C hk hb hc hce h ih =>
    intro he f T0 C0 hf hl
    have h2 := (com_two s k hk hc).2 (by omega)
    obtain ⟨f, rfl⟩ : ∃ f', f = f' + 1 := ⟨f - 1, by omega⟩
    have e1 : nextR s k = { com := true, fin := e' } := by rw [nextR, if_neg (by simp [hb]), if_pos hc, if_neg (by omega), hce]
    rw [runT, if_pos hk, e1]
    simp only [ne_eq, not_true_eq_false, if_false, if_true, Int.toNat_natCast]
    rw [ih he f T0 _ (by omega) hl]
    simp
  | tok k e e' T C hk hb hc h0 hfin h ih =>
    intro he f T0 C0 hf hl
    obtain ⟨t1, t2⟩ := tok_shape s k hk
    have t2 := t2.resolve_left (by simp [h0])
    obtain ⟨f, rfl⟩ : ∃ f', f = f' + 1 := ⟨f - 1, by omega⟩
    have e1 : nextR s k = tokR s k := by rw [nextR, if_neg (by simp [hb]), if_neg (by simp [hc])]
    rw [List.length_cons] at hl
    rw [runT, if_pos hk, e1, if_neg (by simp [h0]), if_neg (by simp [t1]), if_pos t2.1, if_neg (by omega), hfin, Int.toNat_natCast, ih he f _ C0 (by omega) (by simp; omega)]
    simp

theorem run_toks (s : ByteArray) : ∀ (f k : Nat) (T0 : List Nx) (C0 : List (Int × Int)) (T : List Nx) (C : List (Int × Int)) (a : Int), k ≤ s.size → s.size - k ≤ f → T0.length ≤ 6000 → runT s f k T0 C0 = (T, C, 0, a) →
    ∃ T1 C1, T = T0 ++ T1 ∧ C = C0 ++ C1 ∧ Toks s k s.size T1 C1 ∧ T.length ≤ 6000
  | 0, k, T0, C0, T, C, a, hk, hf, hl, hr => by
    simp only [runT, Prod.mk.injEq] at hr
    obtain ⟨rfl, rfl, _⟩ := hr
    refine ⟨[], [], by simp, by simp, ?_, hl⟩
    rw [show k = s.size by omega]
    exact .nil _
  | f + 1, k, T0, C0, T, C, a, hk, hf, hl, hr => by
    rw [runT] at hr
    by_cases hlt : k < s.size
    · rw [if_pos hlt] at hr
      by_cases hcode : (nextR s k).code = 0
      · rw [if_neg (by simp [hcode])] at hr
        unfold nextR at hr hcode
        cases hb : blankB (btF s k) with
        | true =>
          simp only [hb, if_true, Bool.false_eq_true, if_false, ne_eq, not_true_eq_false] at hr
          have e1 : ((k : Int) + 1).toNat = k + 1 := by omega
          rw [e1] at hr
          obtain ⟨T1, C1, h1, h2, h3, h4⟩ := run_toks s f (k + 1) T0 C0 T C a (by omega) (by omega) hl hr
          exact ⟨T1, C1, h1, h2, .blank _ _ _ _ hlt hb h3, h4⟩
        | false =>
          cases hc : comB s k with
          | true =>
            by_cases hn : comE s k < 0
            · simp [hb, hc, hn] at hcode
            · have h2 := (com_two s k hlt hc).2 (by omega)
              obtain ⟨e', he'⟩ : ∃ e' : Nat, comE s k = e' := ⟨(comE s k).toNat, by omega⟩
              simp only [hb, hc, hn, if_true, Bool.false_eq_true, if_false] at hr
              rw [he', Int.toNat_natCast] at hr
              obtain ⟨T1, C1, h1, h2, h3, h4⟩ := run_toks s f e' T0 _ T C a (by omega) (by omega) hl hr
              exact ⟨T1, _, h1, by rw [h2, List.append_assoc]; rfl, .com _ _ e' _ _ hlt hb hc he' h3, h4⟩
          | false =>
            simp only [hb, hc, Bool.false_eq_true, if_false] at hr hcode
            obtain ⟨t1, t2⟩ := tok_shape s k hlt
            have t2 := t2.resolve_left (by simp [hcode])
            rw [if_neg (by simp [t1]), if_pos t2.1] at hr
            by_cases h6 : T0.length = 6000
            · rw [if_pos h6] at hr
              simp at hr
            · rw [if_neg h6] at hr
              obtain ⟨e', he'⟩ : ∃ e' : Nat, (tokR s k).fin = e' := ⟨(tokR s k).fin.toNat, by omega⟩
              rw [he', Int.toNat_natCast] at hr
              obtain ⟨T1, C1, h1, h2, h3, h4⟩ := run_toks s f e' _ C0 T C a (by omega) (by omega) (by simp; omega) hr
              exact ⟨_, C1, by rw [h1, List.append_assoc]; rfl, h2, .tok _ _ e' _ _ hlt hb hc hcode he' h3, h4⟩
      · rw [if_pos hcode] at hr
        simp only [Prod.mk.injEq] at hr
        exact absurd hr.2.2.1 hcode
    · rw [if_neg hlt] at hr
      simp only [Prod.mk.injEq] at hr
      obtain ⟨rfl, rfl, _⟩ := hr
      refine ⟨[], [], by simp, by simp, ?_, hl⟩
      rw [show k = s.size by omega]
      exact .nil _

theorem split_toks (s : ByteArray) (h : (splitS s).2.2.1 = 0) : Toks s 0 s.size (splitS s).1 (splitS s).2.1 ∧ s.size ≤ 16000 ∧ (splitS s).1.length ≤ 6000 := by
  unfold splitS at h ⊢
  by_cases hz : s.size > 16000
  · rw [if_pos hz] at h; simp at h
  · rw [if_neg hz] at h ⊢
    obtain ⟨T1, C1, h1, h2, h3, h4⟩ := run_toks s s.size 0 [] [] (runT s s.size 0 [] []).1 (runT s s.size 0 [] []).2.1 (runT s s.size 0 [] []).2.2.2 (by omega) (by omega) (by simp) (by rw [← h])
    rw [List.nil_append] at h1 h2
    exact ⟨by rw [h1, h2]; exact h3, by omega, h4⟩
theorem toks_split {s : ByteArray} {T : List Nx} {C : List (Int × Int)} (h : Toks s 0 s.size T C) (h1 : s.size ≤ 16000) (h2 : T.length ≤ 6000) : splitS s = (T, C, 0, 0) := by
  rw [splitS, if_neg (by omega), toks_run s h rfl s.size [] [] (by omega) (by simpa using h2)]
  simp

def shC (o : Nat) (c : Int × Int) : Int × Int := (c.1 + o, c.2 + o)

section
variable {s u : ByteArray} {o : Nat} (h : Sub s u o)
include h
theorem Sub.comB_up (hs : Stop s u o) (k : Nat) (hk : k < u.size) : comB s (o + k) = comB u k := by
  by_cases hlt : k + 1 < u.size
  · simp only [comB, h.two k hlt]
  · have e1 : ∀ x y, twoB u k x y = false := fun x y => by simp [twoB, hlt]
    have e2 : ∀ x, twoB s (o + k) x 45 = false := fun x => by
      rcases hs with e | hb
      · simp [twoB, show ¬ o + k + 1 < s.size by omega]
      · have := (blank_no hb).2.2.2.2.2.2.1
        rw [show ((o + u.size : Nat) : Int) = ((o + k : Nat) : Int) + 1 by omega] at this
        simp only [twoB]
        rw [show (btF s (((o + k : Nat) : Int) + 1) == 45) = false by simpa using this]
        simp
    simp only [comB, e1, e2]
theorem Sub.comB_dn (k : Nat) (hk : k < u.size) (hc : comB s (o + k) = false) : comB u k = false := by
  by_cases hlt : k + 1 < u.size
  · simp only [comB, h.two k hlt]; exact hc
  · simp [comB, twoB, hlt]

theorem Sub.up (hs : Stop s u o) {k e : Nat} {T : List Nx} {C : List (Int × Int)} (ht : Toks u k e T C) : (C = [] ∨ o + u.size = s.size ∨ btF s ((o + u.size : Nat) : Int) = 10) → Toks s (o + k) (o + e) (T.map (·.sh o)) (C.map (shC o)) := by
  have hl := h.le
  induction ht with
  | nil k => intro _; exact .nil _
  | blank k e T C hk hb ht ih =>
    intro hn
    exact .blank _ _ _ _ (by omega) (by rw [← h.bt k hk]; exact hb) (ih hn)
  | com k e e' T C hk hb hc he ht ih =>
    intro hn
    have hn : o + u.size = s.size ∨ btF s ((o + u.size : Nat) : Int) = 10 := by
      rcases hn with hn | hn
      · cases hn
      · exact hn
    obtain ⟨c1, c2⟩ := com_two u k hk hc
    have c2 := c2 (by omega)
    have hce : comE s (o + k) = ((o + e' : Nat) : Int) := by
      unfold comE at he ⊢
      rw [← h.two k c1, ← h.two k c1]
      split
      · rename_i h2
        rw [if_pos h2] at he
        rw [(h.line k hk).2 hn]
        omega
      · rename_i h2
        rw [if_neg h2] at he
        have h3 : twoB u k 123 45 = true := by simpa [comB, h2] using hc
        rw [if_pos h3] at he ⊢
        have := (h.blk _ k 0 rfl).2 (by omega)
        omega
    have := Toks.com (o + k) (o + e) (o + e') _ _ (by omega) (by rw [← h.bt k hk]; exact hb) (by rw [h.comB_up hs k hk]; exact hc) hce (ih (.inr hn))
    have e1 : shC o ((k : Int), (e' : Int)) = (((o + k : Nat) : Int), ((o + e' : Nat) : Int)) := by simp [shC]; omega
    rw [List.map_cons, e1]
    exact this
  | tok k e e' T C hk hb hc h0 he ht ih =>
    intro hn
    have ht2 := h.tok_up hs k hk h0
    have := Toks.tok (o + k) (o + e) (o + e') _ _ (by omega) (by rw [← h.bt k hk]; exact hb) (by rw [h.comB_up hs k hk]; exact hc) (by rw [ht2]; exact h0) (by rw [ht2]; simp only [Nx.sh]; omega) (ih hn)
    rw [ht2] at this
    exact this

theorem Sub.dn {k0 e0 : Nat} {T : List Nx} {C : List (Int × Int)} (ht : Toks s k0 e0 T C) : ∀ k e, k0 = o + k → e0 = o + e → e ≤ u.size → ∃ T' C', T = T'.map (·.sh o) ∧ C = C'.map (shC o) ∧ Toks u k e T' C' := by
  have hl := h.le
  induction ht with
  | nil k =>
    intro k1 e1 h1 h2 h3
    obtain rfl : k1 = e1 := by omega
    exact ⟨[], [], rfl, rfl, .nil _⟩
  | blank k e T C hk hb ht ih =>
    intro k1 e1 h1 h2 h3
    have := ht.le
    subst h1
    obtain ⟨T', C', a1, a2, a3⟩ := ih (k1 + 1) e1 (by omega) h2 h3
    exact ⟨T', C', a1, a2, .blank _ _ _ _ (by omega) (by rw [h.bt k1 (by omega)]; exact hb) a3⟩
  | com k e e' T C hk hb hc he ht ih =>
    intro k1 e1 h1 h2 h3
    have hle := ht.le
    subst h1
    obtain ⟨c1, c2⟩ := com_two s _ hk hc
    have c2 := c2 (by omega)
    have hk1 : k1 + 1 < u.size := by omega
    obtain ⟨T', C', a1, a2, a3⟩ := ih (e' - o) e1 (by omega) h2 h3
    have hcu : comB u k1 = true := by simp only [comB, h.two k1 hk1]; exact hc
    have hce : comE u k1 = ((e' - o : Nat) : Int) := by
      unfold comE at he ⊢
      rw [h.two k1 hk1, h.two k1 hk1]
      split
      · rename_i h2
        rw [if_pos h2] at he
        rw [(h.line k1 (by omega)).1 (by omega)]
        omega
      · rename_i h2
        rw [if_neg h2] at he
        have h3 : twoB s (o + k1) 123 45 = true := by simpa [comB, h2] using hc
        rw [if_pos h3] at he ⊢
        exact (h.blk _ k1 0 rfl).1 e' he (by omega)
    refine ⟨T', _, a1, ?_, .com _ _ (e' - o) _ _ (by omega) (by rw [h.bt k1 (by omega)]; exact hb) hcu hce a3⟩
    have e1 : shC o ((k1 : Int), ((e' - o : Nat) : Int)) = (((o + k1 : Nat) : Int), (e' : Int)) := by
      have : o ≤ e' := by omega
      simp only [shC, Prod.mk.injEq]
      omega
    rw [List.map_cons, e1, a2]
  | tok k e e' T C hk hb hc h0 he ht ih =>
    intro k1 e1 h1 h2 h3
    have hle := ht.le
    subst h1
    have t2 := (tok_shape s _ hk).2.resolve_left (by simp [h0])
    obtain ⟨T', C', a1, a2, a3⟩ := ih (e' - o) e1 (by omega) h2 h3
    have htk := h.tok_dn k1 (by omega) h0 (by omega)
    have hf : (tokR u k1).fin = ((e' - o : Nat) : Int) := by
      have := congrArg Nx.fin htk
      simp only [Nx.sh] at this
      omega
    have hc0 : (tokR u k1).code = 0 := by
      have := congrArg Nx.code htk
      simp only [Nx.sh] at this
      omega
    refine ⟨tokR u k1 :: T', C', by rw [a1, htk]; rfl, a2, .tok _ _ (e' - o) _ _ (by omega) (by rw [h.bt k1 (by omega)]; exact hb) (h.comB_dn k1 (by omega) hc) hc0 hf a3⟩
end
end Go.VM
