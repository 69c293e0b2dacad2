/- Part of the proof: X25. -/
import Derived.Test.YtcpdnjehmnbheaaDoorX23
namespace Go.VM
open Go.Proofs Go
set_option maxRecDepth 100000
set_option linter.unusedVariables false
set_option linter.unusedSimpArgs false

/-! ### The source without comments -/
def stripL (s : ByteArray) : Nat → List (Int × Int) → ByteArray
  | k, [] => s.extract k s.size
  | k, c :: C => s.extract k c.1.toNat ++ ⟨#[32]⟩ ++ stripL s c.2.toNat C
def Nx.kt (x : Nx) : Int × ByteArray := (x.kind, x.text)

theorem kt_sh (T : List Nx) (o : Nat) : (T.map (·.sh o)).map Nx.kt = T.map Nx.kt := by
  rw [List.map_map]
  rfl

/-- a stretch up to its first comment -/
theorem Toks.first {s : ByteArray} {k e : Nat} {T : List Nx} {D : List (Int × Int)} (h : Toks s k e T D) : ∀ c C, D = c :: C → k ≤ s.size → ∃ (a e' : Nat) (T1 T2 : List Nx), c = ((a : Int), (e' : Int)) ∧ T = T1 ++ T2 ∧ Toks s k a T1 [] ∧ Toks s e' e T2 C ∧ k ≤ a ∧ a + 2 ≤ e' ∧ e' ≤ s.size := by
  induction h with
  | nil k => intro c C h; cases h
  | blank k e T D hk hb h ih =>
    intro c C hD _
    obtain ⟨a, e', T1, T2, h1, h2, h3, h4, h5, h6⟩ := ih c C hD (by omega)
    exact ⟨a, e', T1, T2, h1, h2, .blank _ _ _ _ hk hb h3, h4, by omega, h6⟩
  | com k e e' T D hk hb hc he h ih =>
    intro c C hD _
    cases hD
    have := (com_two s k hk hc).2 (by omega)
    exact ⟨k, e', [], T, rfl, rfl, .nil _, h, by omega, by omega, by omega⟩
  | tok k e e' T D hk hb hc h0 he h ih =>
    intro c C hD _
    have t2 := (tok_shape s k hk).2.resolve_left (by simp [h0])
    obtain ⟨a, e2, T1, T2, h1, h2, h3, h4, h5, h6⟩ := ih c C hD (by omega)
    exact ⟨a, e2, _, T2, h1, by rw [h2]; rfl, .tok _ _ e' _ _ hk hb hc h0 he h3, h4, by omega, h6⟩

/-- two stretches without comments, a blank between them -/
theorem cat_blank {a b : ByteArray} {Ta Tb : List Nx} (ha : Toks a 0 a.size Ta []) (hb : Toks b 0 b.size Tb []) :
    Toks (a ++ ⟨#[32]⟩ ++ b) 0 (a ++ ⟨#[32]⟩ ++ b).size (Ta ++ Tb.map (·.sh (a.size + 1))) [] := by
  have z1 : (⟨#[32]⟩ : ByteArray).size = 1 := rfl
  have z2 : (a ++ ⟨#[32]⟩ ++ b).size = a.size + 1 + b.size := by rw [ByteArray.size_append, ByteArray.size_append, z1]
  have s1 : Sub (a ++ ⟨#[32]⟩ ++ b) a 0 := by rw [ByteArray.append_assoc]; exact sub_left _ _
  have s2 : Sub (a ++ ⟨#[32]⟩ ++ b) b (a.size + 1) := by
    have := sub_right (a ++ ⟨#[32]⟩) b
    rw [ByteArray.size_append, z1] at this
    exact this
  have b1 : btF (a ++ ⟨#[32]⟩ ++ b) ((a.size : Nat) : Int) = 32 := by
    have h1 := (sub_left (a ++ ⟨#[32]⟩) b).bt a.size (by rw [ByteArray.size_append, z1]; omega)
    have h2 := (sub_right a ⟨#[32]⟩).bt 0 (by rw [z1]; omega)
    rw [Nat.zero_add] at h1
    rw [Nat.add_zero] at h2
    rw [← h1, ← h2]
    rfl
  have t1 := s1.up (.inr (by rw [Nat.zero_add, b1]; rfl)) ha (.inl rfl)
  have t2 := s2.up (.inl (by rw [z2])) hb (.inl rfl)
  have e0 : Ta.map (·.sh 0) = Ta := by
    rw [List.map_congr_left (g := id) (fun x _ => sh_zero x), List.map_id]
  rw [Nat.zero_add, Nat.zero_add, e0] at t1
  rw [Nat.add_zero] at t2
  rw [z2]
  have := t1.app (.blank _ _ _ _ (by omega) (by rw [b1]; rfl) t2)
  exact this

theorem strip_toks (s : ByteArray) : ∀ (C : List (Int × Int)) (k : Nat) (T : List Nx), k ≤ s.size → Toks s k s.size T C →
    ∃ T', Toks (stripL s k C) 0 (stripL s k C).size T' [] ∧ T'.map Nx.kt = T.map Nx.kt ∧ (stripL s k C).size ≤ s.size - k
  | [], k, T, hk, h => by
    have hz : (s.extract k s.size).size = s.size - k := ext_size s k hk
    obtain ⟨T', C', h1, h2, h3⟩ := (sub_extract s k s.size hk (Nat.le_refl _)).dn h 0 (s.size - k) (by omega) (by omega) (by omega)
    have : C' = [] := by cases C' with | nil => rfl | cons => simp at h2
    subst this
    refine ⟨T', ?_, by rw [h1, kt_sh], by show (s.extract k s.size).size ≤ _; omega⟩
    show Toks (s.extract k s.size) 0 (s.extract k s.size).size T' []
    rw [hz]; exact h3
  | c :: C, k, T, hk, h => by
    obtain ⟨a, e', T1, T2, rfl, rfl, h3, h4, h5, h6, h7⟩ := h.first c C rfl hk
    obtain ⟨T2', g1, g2, g3⟩ := strip_toks s C e' T2 h7 h4
    have hz : (s.extract k a).size = a - k := by simp [ByteArray.size_extract]; omega
    obtain ⟨T1', C', k1, k2, k3⟩ := (sub_extract s k a h5 (by omega)).dn h3 0 (a - k) (by omega) (by omega) (by omega)
    have : C' = [] := by cases C' with | nil => rfl | cons => simp at k2
    subst this
    rw [← hz] at k3
    have := cat_blank k3 g1
    refine ⟨_, this, ?_, ?_⟩
    · rw [List.map_append, List.map_append, kt_sh, g2, k1, kt_sh]
    · show (s.extract k ((a : Int)).toNat ++ ⟨#[32]⟩ ++ stripL s ((e' : Int)).toNat C).size ≤ _
      rw [ByteArray.size_append, ByteArray.size_append, Int.toNat_natCast, Int.toNat_natCast, hz]
      have : (⟨#[32]⟩ : ByteArray).size = 1 := rfl
      omega

def stripS (s : ByteArray) : ByteArray := stripL s 0 (splitS s).2.1
theorem strip_split (s : ByteArray) (h : (splitS s).2.2.1 = 0) : ∃ T', splitS (stripS s) = (T', [], 0, 0) ∧ T'.map Nx.kt = (splitS s).1.map Nx.kt ∧ stripS (stripS s) = stripS s ∧ (stripS s).size ≤ s.size := by
  obtain ⟨t1, t2, t3⟩ := split_toks s h
  obtain ⟨T', h1, h2, h3⟩ := strip_toks s _ 0 _ (Nat.zero_le _) t1
  have hl : T'.length = (splitS s).1.length := by
    have := congrArg List.length h2
    simpa using this
  have h4 : splitS (stripS s) = (T', [], 0, 0) := toks_split h1 (by show (stripL s 0 _).size ≤ _; omega) (by omega)
  refine ⟨T', h4, h2, ?_, by show (stripL s 0 _).size ≤ _; omega⟩
  rw [stripS, h4]
  show (stripS s).extract 0 (stripS s).size = stripS s
  simp
end Go.VM
