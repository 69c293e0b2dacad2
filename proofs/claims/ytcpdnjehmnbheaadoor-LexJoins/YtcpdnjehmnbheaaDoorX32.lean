/- Part of the proof: X32. -/
import Derived.Test.YtcpdnjehmnbheaaDoorX31
namespace Go.VM
open Go.Proofs Go
set_option maxRecDepth 100000
set_option linter.unusedVariables false
set_option linter.unusedSimpArgs false

theorem ext_split (s : ByteArray) (a b c : Nat) (h1 : a ≤ b) (h2 : b ≤ c) : s.extract a c = s.extract a b ++ s.extract b c := by
  rw [ByteArray.extract_append_extract, Nat.min_eq_left h1, Nat.max_eq_right h2]
/-- where a source's comments begin, or its end -/
def headC (s : ByteArray) : List (Int × Int) → Nat
  | [] => s.size
  | c :: _ => c.1.toNat
theorem strip_ext (s : ByteArray) (k m : Nat) (C : List (Int × Int)) (h1 : k ≤ m) (h2 : m ≤ headC s C) : stripL s k C = s.extract k m ++ stripL s m C := by
  cases C with
  | nil => exact ext_split s k m s.size h1 h2
  | cons c C =>
    have h2 : m ≤ c.1.toNat := h2
    simp only [stripL]
    rw [ext_split s k m c.1.toNat h1 h2]
    simp only [ByteArray.append_assoc]
theorem strip_com (s : ByteArray) (k e : Nat) (C : List (Int × Int)) : stripL s k (((k : Int), (e : Int)) :: C) = ⟨#[32]⟩ ++ stripL s e C := by
  simp only [stripL, Int.toNat_natCast]
  have : s.extract k k = ByteArray.empty := by
    apply ByteArray.ext
    simp
  rw [this]
  simp
theorem Toks.head {s : ByteArray} {k e : Nat} {T : List Nx} {C : List (Int × Int)} (h : Toks s k e T C) : e ≤ s.size → e ≤ headC s C ∨ k ≤ headC s C := by
  induction h with
  | nil k => intro h; exact .inl h
  | blank k e T C hk hb h ih => intro he; (have := ih he; omega)
  | com k e e' T C hk hb hc he h ih => intro _; exact .inr (by simp [headC])
  | tok k e e' T C hk hb hc h0 he h ih =>
    intro he2
    have t2 := (tok_shape s k hk).2.resolve_left (by simp [h0])
    have := ih he2
    omega
theorem toks_head {s : ByteArray} {k : Nat} {T : List Nx} {C : List (Int × Int)} (h : Toks s k s.size T C) (hk : k ≤ s.size) : k ≤ headC s C := by
  rcases h.head (Nat.le_refl _) with h | h <;> omega
end Go.VM
