/- Part of the proof: X42. -/
import Derived.Test.YtcpdnjehmnbheaaDoorX41
namespace Go.VM
open Go.Proofs Go
set_option maxRecDepth 100000
set_option linter.unusedVariables false
set_option linter.unusedSimpArgs false

/-! ### Joining tokens -/
/-- the tokens from a to b -/
def segL (K : Nat → Int) (S : Nat → ByteArray) (a b : Nat) : List KT := ktL (fun i => K (a + i)) (fun i => S (a + i)) (b - a)
theorem segL_length (K : Nat → Int) (S : Nat → ByteArray) (a b : Nat) : (segL K S a b).length = b - a := ktL_length _ _ _
theorem segL_snoc (K : Nat → Int) (S : Nat → ByteArray) (a b : Nat) (h : a ≤ b) : segL K S a (b + 1) = segL K S a b ++ [(K b, S b)] := by
  rw [segL, show b + 1 - a = (b - a) + 1 by omega, ktL, segL, show a + (b - a) = b by omega]
theorem segL_nil (K : Nat → Int) (S : Nat → ByteArray) (a : Nat) : segL K S a a = [] := by
  rw [segL, Nat.sub_self, ktL]
theorem segL_app (K : Nat → Int) (S : Nat → ByteArray) (a b c : Nat) (h1 : a ≤ b) (h2 : b ≤ c) : segL K S a c = segL K S a b ++ segL K S b c := by
  obtain ⟨d, rfl⟩ : ∃ d, c = b + d := ⟨c - b, by omega⟩
  induction d with
  | zero => rw [Nat.add_zero, segL_nil, List.append_nil]
  | succ d ih => rw [← Nat.add_assoc, segL_snoc _ _ _ _ (by omega), segL_snoc _ _ _ _ (by omega), ih (by omega), List.append_assoc]

section
variable (K : Nat → Int) (S : Nat → ByteArray)
open Classical in
/-- one token more: a blank ahead of it, where sep says so; nothing, where that is too long -/
noncomputable def joinG (sep : Nat → Nat → Prop) : Nat → Nat → ByteArray → Nat → Option ByteArray
  | 0, _, out, _ => some out
  | f + 1, i, out, a =>
    if 0 < i ∧ sep a i then (if (out ++ ⟨#[32]⟩ ++ S i).size > 16000 then none else joinG sep f (i + 1) (out ++ ⟨#[32]⟩ ++ S i) i)
    else (if (out ++ S i).size > 16000 then none else joinG sep f (i + 1) (out ++ S i) a)

def sepR (a i : Nat) : Prop := (K (i - 1) ≠ 4 ∧ K i ≠ 4) ∨ ¬ wellB (segL K S a i ++ [(K i, S i)])
def sepP (a i : Nat) : Prop := (K (i - 1) ≠ 4 ∧ K i ≠ 4) ∨ ¬ wellB (segL K S (max a (i - 3)) i ++ [(K i, S i)])

theorem well_reads (L : List KT) (h1 : (catL L).size ≤ 16000) (h2 : L.length ≤ 6000) : wellB L ↔ Reads (catL L) L := (reads_iff rfl h1 h2).symm

theorem alone_reads (i : Nat) (h : aloneP (K i) (S i)) : Reads (S i) [(K i, S i)] ∧ (S i).size ≤ 16000 := by
  obtain ⟨h1, h2, h3, h4⟩ := h
  obtain ⟨t1, t2, t3⟩ := split_toks _ h1
  match hT : (splitS (S i)).1, h2 with
  | [x], _ =>
    rw [hT] at h3 h4 t1
    have h3 : x.kind = K i := h3
    have h4 : x.text = S i := h4
    have hz : sumT [x] = (S i).size := by simp [sumT, h4]
    refine ⟨⟨[x], (t1.tks (Nat.zero_le _)).2 (by rw [hz]; omega), ?_⟩, t2⟩
    simp [Nx.kt, h3, h4]

/-- what stands written ahead of the last piece: nothing, or p and a blank -/
def Ahead (out : ByteArray) (a i : Nat) : Prop := (a = 0 ∧ out = catL (segL K S a i)) ∨ ∃ p T, Toks p 0 p.size T [] ∧ T.map Nx.kt = ktL K S a ∧ out = p ++ ⟨#[32]⟩ ++ catL (segL K S a i)

theorem seg0 (i : Nat) : segL K S 0 i = ktL K S i := by
  rw [segL, Nat.sub_zero]
  exact ktL_congr i fun j _ => by simp
theorem ktL_seg (a i : Nat) (h : a ≤ i) : ktL K S i = ktL K S a ++ segL K S a i := by
  rw [← seg0, ← seg0, ← segL_app _ _ _ _ _ (Nat.zero_le _) h]

/-- all that is written is read as the tokens -/
theorem Ahead.toks {K : Nat → Int} {S : Nat → ByteArray} {out : ByteArray} {a i : Nat} (h : Ahead K S out a i) (hr : Reads (catL (segL K S a i)) (segL K S a i)) (hai : a ≤ i) : ∃ T, Toks out 0 out.size T [] ∧ T.map Nx.kt = ktL K S i := by
  rcases h with ⟨rfl, rfl⟩ | ⟨p, T, h1, h2, rfl⟩
  · obtain ⟨T, h1, h2⟩ := hr
    exact ⟨T, h1.toks, by rw [h2, seg0]⟩
  · obtain ⟨T', h3, h4⟩ := reads_blank h1 hr
    exact ⟨T', h3, by rw [h4, h2, ktL_seg K S a i hai]⟩

/-- THE LAW: both ways of asking for a blank write the same, and what is written is read as the tokens. -/
theorem join_law (n : Nat) (hn : n ≤ 6000) (hal : ∀ i, i < n → aloneP (K i) (S i)) : ∀ (f i a : Nat) (out : ByteArray), i + f = n → (a < i ∨ i = 0 ∧ a = 0) → out.size ≤ 16000 → Ahead K S out a i → Reads (catL (segL K S a i)) (segL K S a i) →
    joinG S (sepR K S) f i out a = joinG S (sepP K S) f i out a ∧ ∀ t, joinG S (sepR K S) f i out a = some t → t.size ≤ 16000 ∧ ∃ T, Toks t 0 t.size T [] ∧ T.map Nx.kt = ktL K S n
  | 0, i, a, out, hi, ha, hz, hA, hr => by
    refine ⟨rfl, fun t ht => ?_⟩
    cases ht
    obtain rfl : i = n := by omega
    exact ⟨hz, hA.toks hr (by omega)⟩
  | f + 1, i, a, out, hi, ha, hz, hA, hr => by
    have hai : a ≤ i := by omega
    obtain ⟨r1, r2⟩ := alone_reads K S i (hal i (by omega))
    have hcs : catL (segL K S a i ++ [(K i, S i)]) = catL (segL K S a i) ++ S i := catL_snoc _ _
    have hs1 : segL K S a (i + 1) = segL K S a i ++ [(K i, S i)] := segL_snoc K S a i hai
    have hs2 : segL K S i (i + 1) = [(K i, S i)] := by rw [segL_snoc K S i i (Nat.le_refl _), segL_nil, List.nil_append]
    have hc1 : catL [(K i, S i)] = S i := by
      show S i ++ ByteArray.empty = _
      rw [ByteArray.append_empty]
    have hpz : (catL (segL K S a i)).size ≤ out.size := by
      rcases hA with ⟨-, rfl⟩ | ⟨p, T, -, -, rfl⟩
      · exact Nat.le_refl _
      · rw [ByteArray.size_append]; omega
    have hz1 : (out ++ S i).size = out.size + (S i).size := ByteArray.size_append
    have hb1 : (⟨#[32]⟩ : ByteArray).size = 1 := rfl
    have hz2 : (out ++ ⟨#[32]⟩ ++ S i).size = out.size + 1 + (S i).size := by rw [ByteArray.size_append, ByteArray.size_append, hb1]
    by_cases hbig : out.size + (S i).size > 16000
    · have e1 : joinG S (sepR K S) (f + 1) i out a = none := by
        rw [joinG]
        split
        · rw [if_pos (by omega)]
        · rw [if_pos (by omega)]
      have e2 : joinG S (sepP K S) (f + 1) i out a = none := by
        rw [joinG]
        split
        · rw [if_pos (by omega)]
        · rw [if_pos (by omega)]
      rw [e1, e2]
      exact ⟨rfl, fun t h => by cases h⟩
    · have hw : wellB (segL K S a i ++ [(K i, S i)]) ↔ Reads (catL (segL K S a i ++ [(K i, S i)])) (segL K S a i ++ [(K i, S i)]) :=
        well_reads _ (by rw [hcs, ByteArray.size_append]; omega) (by rw [List.length_append, segL_length]; simp; omega)
      have hsep : sepP K S a i ↔ sepR K S a i := by
        unfold sepP sepR
        rcases Nat.lt_or_ge a (i - 3) with hlt | hge
        · rw [Nat.max_eq_right (by omega)]
          have hsa : segL K S a i = segL K S a (i - 3) ++ segL K S (i - 3) i := segL_app K S a (i - 3) i (by omega) (by omega)
          have h3 := reads_last (segL K S a (i - 3)) (segL K S (i - 3) i) (K i, S i) (by rw [← hsa]; exact hr) (by rw [segL_length]; omega)
          have hw3 : wellB (segL K S (i - 3) i ++ [(K i, S i)]) ↔ Reads (catL (segL K S (i - 3) i ++ [(K i, S i)])) (segL K S (i - 3) i ++ [(K i, S i)]) := by
            refine well_reads _ ?_ (by rw [List.length_append, segL_length]; simp; omega)
            have : (catL (segL K S a i)).size = (catL (segL K S a (i - 3))).size + (catL (segL K S (i - 3) i)).size := by rw [hsa, catL_app, ByteArray.size_append]
            rw [catL_snoc, ByteArray.size_append]
            dsimp only
            omega
          rw [hw3, h3, hw, hsa]
        · rw [Nat.max_eq_left (by omega)]
      by_cases hs : 0 < i ∧ sepR K S a i
      · have hs' : 0 < i ∧ sepP K S a i := ⟨hs.1, hsep.2 hs.2⟩
        by_cases hb2 : (out ++ ⟨#[32]⟩ ++ S i).size > 16000
        · have e1 : joinG S (sepR K S) (f + 1) i out a = none := by rw [joinG, if_pos hs, if_pos hb2]
          have e2 : joinG S (sepP K S) (f + 1) i out a = none := by rw [joinG, if_pos hs', if_pos hb2]
          rw [e1, e2]
          exact ⟨rfl, fun t h => by cases h⟩
        · have e1 : joinG S (sepR K S) (f + 1) i out a = joinG S (sepR K S) f (i + 1) (out ++ ⟨#[32]⟩ ++ S i) i := by rw [joinG, if_pos hs, if_neg hb2]
          have e2 : joinG S (sepP K S) (f + 1) i out a = joinG S (sepP K S) f (i + 1) (out ++ ⟨#[32]⟩ ++ S i) i := by rw [joinG, if_pos hs', if_neg hb2]
          rw [e1, e2]
          obtain ⟨T, k1, k2⟩ := hA.toks hr hai
          exact join_law n hn hal f (i + 1) i _ (by omega) (.inl (by omega)) (by omega) (.inr ⟨out, T, k1, k2, by rw [hs2, hc1]⟩) (by rw [hs2, hc1]; exact r1)
      · have hs' : ¬ (0 < i ∧ sepP K S a i) := fun h => hs ⟨h.1, hsep.1 h.2⟩
        have hb2 : ¬ (out ++ S i).size > 16000 := by omega
        have e1 : joinG S (sepR K S) (f + 1) i out a = joinG S (sepR K S) f (i + 1) (out ++ S i) a := by rw [joinG, if_neg hs, if_neg hb2]
        have e2 : joinG S (sepP K S) (f + 1) i out a = joinG S (sepP K S) f (i + 1) (out ++ S i) a := by rw [joinG, if_neg hs', if_neg hb2]
        rw [e1, e2]
        have hr2 : Reads (catL (segL K S a (i + 1))) (segL K S a (i + 1)) := by
          rw [hs1]
          by_cases hi0 : 0 < i
          · have : ¬ sepR K S a i := fun h => hs ⟨hi0, h⟩
            have : wellB (segL K S a i ++ [(K i, S i)]) := Classical.byContradiction fun h => this (.inr h)
            exact hw.1 this
          · obtain rfl : i = 0 := by omega
            obtain rfl : a = 0 := by omega
            rw [segL_nil, List.nil_append, hc1]
            exact r1
        refine join_law n hn hal f (i + 1) a _ (by omega) (.inl (by omega)) (by omega) ?_ hr2
        rcases hA with ⟨h1, rfl⟩ | ⟨p, T, h1, h2, rfl⟩
        · exact .inl ⟨h1, by rw [hs1, hcs]⟩
        · exact .inr ⟨p, T, h1, h2, by rw [hs1, hcs, ByteArray.append_assoc]⟩
end

open Classical in
/-- the text of n tokens: none, where there are too many, or one is not the one that its text makes, or the text is too long -/
noncomputable def joinS (K : Nat → Int) (S : Nat → ByteArray) (n : Nat) (sep : Nat → Nat → Prop) : Option ByteArray :=
  if n ≤ 6000 ∧ ∀ i, i < n → aloneP (K i) (S i) then joinG S sep n 0 ⟨#[]⟩ 0 else none

theorem joinS_law (K : Nat → Int) (S : Nat → ByteArray) (n : Nat) : joinS K S n (sepR K S) = joinS K S n (sepP K S) ∧ ∀ t, joinS K S n (sepP K S) = some t → (splitS t).2.2.1 = 0 ∧ (splitS t).1.map Nx.kt = ktL K S n := by
  unfold joinS
  by_cases h : n ≤ 6000 ∧ ∀ i, i < n → aloneP (K i) (S i)
  · rw [if_pos h, if_pos h]
    obtain ⟨h1, h2⟩ := join_law K S n h.1 h.2 n 0 0 ⟨#[]⟩ (by omega) (.inr ⟨rfl, rfl⟩) (Nat.zero_le _) (.inl ⟨rfl, by rw [segL_nil]; rfl⟩) (by rw [segL_nil]; exact ⟨[], .nil 0, rfl⟩)
    refine ⟨h1, fun t ht => ?_⟩
    rw [← h1] at ht
    obtain ⟨k1, T, k2, k3⟩ := h2 t ht
    have hl : T.length = n := by
      have := congrArg List.length k3
      rwa [List.length_map, ktL_length] at this
    have := toks_split k2 k1 (by omega)
    rw [this]
    exact ⟨rfl, k3⟩
  · rw [if_neg h, if_neg h]
    exact ⟨rfl, fun t h => by cases h⟩
end Go.VM
