/- Part of the proof: X38. -/
import Derived.Test.YtcpdnjehmnbheaaDoorX37
namespace Go.VM
open Go.Proofs Go
set_option maxRecDepth 100000
set_option linter.unusedVariables false
set_option linter.unusedSimpArgs false

/-! ### Texts that are read as given tokens -/
abbrev KT := Int × ByteArray
def catL : List KT → ByteArray
  | [] => ⟨#[]⟩
  | x :: L => x.2 ++ catL L
def sumL : List KT → Nat
  | [] => 0
  | x :: L => x.2.size + sumL L
theorem catL_app : ∀ L M : List KT, catL (L ++ M) = catL L ++ catL M
  | [], M => (ByteArray.empty_append).symm
  | x :: L, M => by simp only [List.cons_append, catL, catL_app L M, ByteArray.append_assoc]
theorem sumL_app : ∀ L M : List KT, sumL (L ++ M) = sumL L + sumL M
  | [], M => by simp [sumL]
  | x :: L, M => by simp only [List.cons_append, sumL, sumL_app L M]; omega
theorem catL_size : ∀ L : List KT, (catL L).size = sumL L
  | [] => rfl
  | x :: L => by simp only [catL, sumL, ByteArray.size_append, catL_size L]
theorem catT_kt : ∀ T : List Nx, catL (T.map Nx.kt) = catT T
  | [] => rfl
  | x :: T => by simp only [List.map_cons, catL, catT, catT_kt T]; rfl
theorem sumT_kt : ∀ T : List Nx, sumL (T.map Nx.kt) = sumT T
  | [] => rfl
  | x :: T => by simp only [List.map_cons, sumL, sumT, sumT_kt T]; rfl

/-- u is read as the tokens L, and there is nothing between them -/
def Reads (u : ByteArray) (L : List KT) : Prop := ∃ T, Tks u 0 u.size T ∧ T.map Nx.kt = L

theorem Reads.cat {u : ByteArray} {L : List KT} (h : Reads u L) : u = catL L := by
  obtain ⟨T, h1, rfl⟩ := h
  rw [catT_kt, ← h1.cat]
  simp

theorem Tks.len {s : ByteArray} {k e : Nat} {T : List Nx} (h : Tks s k e T) : T.length ≤ sumT T := by
  induction h with
  | nil k => exact Nat.le_refl _
  | tok k e e' T hk hb hc h0 he h ih =>
    have t2 := (tok_shape s k hk).2.resolve_left (by simp [h0])
    simp only [sumT, List.length_cons]
    omega

/-- what the lexer says of a text that the tokens' texts make up -/
theorem reads_iff {L : List KT} {u : ByteArray} (hu : u = catL L) (h1 : u.size ≤ 16000) (h2 : L.length ≤ 6000) : Reads u L ↔ ((splitS u).2.2.1 = 0 ∧ (splitS u).1.map Nx.kt = L) := by
  constructor
  · rintro ⟨T, h3, h4⟩
    have hl : T.length = L.length := by rw [← h4, List.length_map]
    rw [toks_split h3.toks h1 (by omega)]
    exact ⟨rfl, h4⟩
  · rintro ⟨h3, h4⟩
    obtain ⟨t1, t2, t3⟩ := split_toks u h3
    refine ⟨_, (t1.tks (Nat.zero_le _)).2 ?_, h4⟩
    rw [Nat.zero_add, ← sumT_kt, h4, ← catL_size, ← hu]

/-- more than 16,000 bytes are not read -/
theorem split_big {u : ByteArray} (h : 16000 < u.size) : (splitS u).2.2.1 ≠ 0 := by
  unfold splitS
  rw [if_pos h]
  decide

theorem map_split {T : List Nx} {L M : List KT} (h : T.map Nx.kt = L ++ M) : ∃ T1 T2, T = T1 ++ T2 ∧ T1.map Nx.kt = L ∧ T2.map Nx.kt = M := by
  refine ⟨T.take L.length, T.drop L.length, (List.take_append_drop _ _).symm, ?_, ?_⟩
  · rw [List.map_take, h]; simp
  · rw [List.map_drop, h]; simp

/-- THE LAST THREE TELL: with three tokens at least behind L0, one token more is read behind all as it is behind the three. -/
theorem reads_last (L0 L3 : List KT) (c : KT) (hw : Reads (catL (L0 ++ L3)) (L0 ++ L3)) (h3 : 3 ≤ L3.length) :
    Reads (catL (L3 ++ [c])) (L3 ++ [c]) ↔ Reads (catL (L0 ++ L3 ++ [c])) (L0 ++ L3 ++ [c]) := by
  obtain ⟨T, ht, hk⟩ := hw
  obtain ⟨T0, T3, rfl, k0, k3⟩ := map_split hk
  obtain ⟨m, h1, h2⟩ := ht.split
  have hm : m = sumL L0 := by rw [← k0, sumT_kt]; have := h1.sum.1; omega
  have hl3 : 3 ≤ sumT T3 := by
    have := h2.len
    have e : T3.length = L3.length := by rw [← k3, List.length_map]
    omega
  have hwz : (catL (L0 ++ L3)).size = m + sumT T3 := h2.sum.1
  have e1 : catL (L0 ++ L3 ++ [c]) = catL (L0 ++ L3) ++ catL [c] := catL_app _ _
  have e2 : catL (L0 ++ L3 ++ [c]) = catL L0 ++ catL (L3 ++ [c]) := by rw [List.append_assoc, catL_app]
  have s1 : Sub (catL (L0 ++ L3 ++ [c])) (catL (L0 ++ L3)) 0 := by rw [e1]; exact sub_left _ _
  have s2 : Sub (catL (L0 ++ L3 ++ [c])) (catL (L3 ++ [c])) m := by
    have := sub_right (catL L0) (catL (L3 ++ [c]))
    rw [catL_size, ← hm] at this
    rw [e2]; exact this
  have z2 : (catL (L0 ++ L3 ++ [c])).size = m + (catL (L3 ++ [c])).size := by rw [e2, ByteArray.size_append, catL_size L0, hm]
  constructor
  · rintro ⟨T', h4, h5⟩
    have a1 := s1.tks_up2 h1 (by omega)
    have a2 := s2.tks_up (.inl (by rw [z2])) h4 (Nat.zero_le _)
    rw [Nat.zero_add, Nat.zero_add] at a1
    rw [Nat.add_zero, ← z2] at a2
    refine ⟨_, a1.app a2, ?_⟩
    rw [List.map_append, kt_sh, kt_sh, k0, h5, List.append_assoc]
  · rintro ⟨T', h4, h5⟩
    rw [List.append_assoc] at h5
    obtain ⟨U0, U3, rfl, q0, q3⟩ := map_split h5
    obtain ⟨m', b1, b2⟩ := h4.split
    have hm' : m' = m := by rw [hm, ← q0, sumT_kt]; have := b1.sum.1; omega
    subst hm'
    rw [z2] at b2
    obtain ⟨T'', c1, c2⟩ := s2.tks_dn (k := 0) b2 (Nat.zero_le _) (Nat.le_refl _)
    refine ⟨T'', c2, ?_⟩
    rw [← q3, c1, kt_sh]

/-- behind a blank a text is read as it is alone -/
theorem reads_blank {p w : ByteArray} {T : List Nx} (hp : Toks p 0 p.size T []) {L : List KT} (hw : Reads w L) :
    ∃ T', Toks (p ++ ⟨#[32]⟩ ++ w) 0 (p ++ ⟨#[32]⟩ ++ w).size T' [] ∧ T'.map Nx.kt = T.map Nx.kt ++ L := by
  obtain ⟨U, h1, h2⟩ := hw
  refine ⟨_, cat_blank hp h1.toks, ?_⟩
  rw [List.map_append, kt_sh, h2]
end Go.VM
