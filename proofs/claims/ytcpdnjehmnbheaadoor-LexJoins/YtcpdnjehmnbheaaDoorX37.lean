/- Part of the proof: X37. -/
import Derived.Test.YtcpdnjehmnbheaaDoorX25
import Derived.Test.YtcpdnjehmnbheaaDoorX32
namespace Go.VM
open Go.Proofs Go
set_option maxRecDepth 100000
set_option linter.unusedVariables false
set_option linter.unusedSimpArgs false

/-! ### A token is told by the bytes up to two behind its end -/
theorem Sub.tok_up2 {s u : ByteArray} {o : Nat} (h : Sub s u o) (k : Nat) (hk : k < u.size) (hc : (tokR u k).code = 0) (hf : (tokR u k).fin + 2 ≤ u.size) : tokR s (o + k) = (tokR u k).sh o := by
  have hl := h.le
  have hb := h.bt k hk
  have n2 : k ≤ nameE u k ∧ nameE u k ≤ u.size := spanEnd_bounds (nameP u) u.size _ k rfl (by omega)
  have d2 : k ≤ digitsE u k ∧ digitsE u k ≤ u.size := spanEnd_bounds (fun i => digitB (btF u i)) u.size _ k rfl (by omega)
  have hn : nameE u k + 2 ≤ u.size → nameE s (o + k) = o + nameE u k := fun h2 => by
    refine spanEnd_eq (nameP s) s.size _ (o + k) (o + nameE u k) rfl (by omega) (by omega) (fun j h3 h4 => ?_) (fun h3 => ?_)
    · have := spanEnd_all (nameP u) u.size _ k rfl (j - o) (by omega) (by show _ < nameE u k; omega)
      have := h.nameP_up (j - o) (by omega) this
      rwa [show o + (j - o) = j by omega] at this
    · rw [Bool.eq_false_iff]
      intro hp
      have h5 := h.nameP_dn (nameE u k) (by omega) hp (.inl (by omega))
      have h6 : nameP u (nameE u k) = false := spanEnd_stop (nameP u) u.size _ k rfl (by show nameE u k < _; omega)
      rw [h5] at h6
      cases h6
  have hd : digitsE u k + 2 ≤ u.size → digitsE s (o + k) = o + digitsE u k := fun h2 => by
    refine spanEnd_eq (fun i => digitB (btF s i)) s.size _ (o + k) (o + digitsE u k) rfl (by omega) (by omega) (fun j h3 h4 => ?_) (fun h3 => ?_)
    · have h5 := spanEnd_all (fun i => digitB (btF u i)) u.size _ k rfl (j - o) (by omega) (by show _ < digitsE u k; omega)
      have h6 := h.bt (j - o) (by omega)
      rw [show o + (j - o) = j by omega] at h6
      show digitB (btF s (j : Int)) = true
      rw [← h6]; exact h5
    · have h6 : digitB (btF u ((digitsE u k : Nat) : Int)) = false := spanEnd_stop (fun i => digitB (btF u i)) u.size _ k rfl (by show digitsE u k < _; omega)
      show digitB (btF s ((o + digitsE u k : Nat) : Int)) = false
      rw [← h.bt (digitsE u k) (by omega)]
      exact h6
  have hg : k + 3 ≤ u.size → signF (nthS signsL) (s.extract (o + k) s.size) 0 17 = signF (nthS signsL) (u.extract k u.size) 0 17 := fun h2 => by
    refine signF_same _ _ _ _ _ fun q _ hq => ?_
    have hz := signs_size2 q (by omega)
    rw [Bool.eq_iff_iff]
    exact ⟨fun hp => h.pre_dn k hk _ hp (by omega), h.pre_up k hk _⟩
  have hsh := (tok_shape u k hk).2.resolve_left (by simp [hc])
  have hg := hg (by omega)
  clear hsh
  unfold tokR at hc hf ⊢
  rw [hg, ← hb]
  split
  · rename_i hl1
    rw [if_pos hl1] at hf
    dsimp only at hf
    have hn := hn (by omega)
    rw [hn, ← h.ext k (nameE u k) n2.1 n2.2]
    simp [Nx.sh]; omega
  · rename_i hl1
    rw [if_neg hl1] at hc hf
    split
    · rename_i hd1
      rw [if_pos hd1] at hc hf
      by_cases h3 : numF u k (digitsE u k - k) 0 > 1000000000
      · rw [if_pos h3] at hc; exact absurd hc (by simp)
      · rw [if_neg h3] at hc hf
        by_cases h4 : letterB (atI u (digitsE u k : Nat)) = true
        · rw [if_pos h4] at hc; exact absurd hc (by simp)
        · rw [if_neg h4] at hc hf
          dsimp only at hf
          have hd := hd (by omega)
          have hnum := h.num (digitsE u k - k) k 0 (by omega)
          rw [hd, ← h.ext k (digitsE u k) d2.1 d2.2, show o + digitsE u k - (o + k) = digitsE u k - k by omega, ← hnum, ← h.at' _ (by omega), if_neg h3, if_neg h4, if_neg h3, if_neg h4]
          simp [Nx.sh]; omega
    · rename_i hd1
      rw [if_neg hd1] at hc hf
      split
      · rename_i h3; rw [if_pos h3] at hc; exact absurd hc (by simp)
      · simp [Nx.sh]; omega

/-! ### Only tokens, side by side -/
inductive Tks (s : ByteArray) : Nat → Nat → List Nx → Prop
  | nil (k : Nat) : Tks s k k []
  | tok (k e e' : Nat) (T : List Nx) (hk : k < s.size) (hb : blankB (btF s k) = false) (hc : comB s k = false) (h0 : (tokR s k).code = 0) (he : (tokR s k).fin = e') (h : Tks s e' e T) : Tks s k e (tokR s k :: T)

def sumT : List Nx → Nat
  | [] => 0
  | x :: T => x.text.size + sumT T

theorem Tks.toks {s : ByteArray} {k e : Nat} {T : List Nx} (h : Tks s k e T) : Toks s k e T [] := by
  induction h with
  | nil k => exact .nil k
  | tok k e e' T hk hb hc h0 he h ih => exact .tok k e e' T [] hk hb hc h0 he ih

theorem Tks.sum {s : ByteArray} {k e : Nat} {T : List Nx} (h : Tks s k e T) : e = k + sumT T ∧ (k ≤ s.size → e ≤ s.size) := by
  induction h with
  | nil k => exact ⟨rfl, id⟩
  | tok k e e' T hk hb hc h0 he h ih =>
    have t2 := (tok_shape s k hk).2.resolve_left (by simp [h0])
    simp only [sumT]
    exact ⟨by omega, fun _ => ih.2 (by omega)⟩

/-- where the texts fill the stretch there is nothing else -/
theorem Toks.tks {s : ByteArray} {k e : Nat} {T : List Nx} {C : List (Int × Int)} (h : Toks s k e T C) : k ≤ s.size → k + sumT T ≤ e ∧ (k + sumT T = e → Tks s k e T) := by
  induction h with
  | nil k => exact fun _ => ⟨Nat.le_refl _, fun _ => .nil k⟩
  | blank k e T C hk hb h ih =>
    intro _
    obtain ⟨h1, h2⟩ := ih (by omega)
    exact ⟨by omega, fun h3 => by omega⟩
  | com k e e' T C hk hb hc he h ih =>
    intro _
    have := (com_two s k hk hc).2 (by omega)
    obtain ⟨h1, h2⟩ := ih (by omega)
    exact ⟨by omega, fun h3 => by omega⟩
  | tok k e e' T C hk hb hc h0 he h ih =>
    intro _
    have t2 := (tok_shape s k hk).2.resolve_left (by simp [h0])
    obtain ⟨h1, h2⟩ := ih (by omega)
    simp only [sumT]
    exact ⟨by omega, fun h3 => .tok k e e' T hk hb hc h0 he (h2 (by omega))⟩

theorem Tks.app {s : ByteArray} {k e e2 : Nat} {T T2 : List Nx} (h : Tks s k e T) (h2 : Tks s e e2 T2) : Tks s k e2 (T ++ T2) := by
  induction h with
  | nil k => exact h2
  | tok k e e' T hk hb hc h0 he h ih => exact .tok k _ e' _ hk hb hc h0 he (ih h2)

theorem Tks.split {s : ByteArray} : ∀ {T1 T2 : List Nx} {k e : Nat}, Tks s k e (T1 ++ T2) → ∃ m, Tks s k m T1 ∧ Tks s m e T2
  | [], T2, k, e, h => ⟨k, .nil k, h⟩
  | x :: T1, T2, k, e, h => by
    cases h with
    | tok _ _ e' _ hk hb hc h0 he h =>
      obtain ⟨m, h1, h2⟩ := Tks.split h
      exact ⟨m, .tok k m e' T1 hk hb hc h0 he h1, h2⟩

/-- the texts -/
def catT : List Nx → ByteArray
  | [] => ⟨#[]⟩
  | x :: T => x.text ++ catT T

theorem Tks.cat {s : ByteArray} {k e : Nat} {T : List Nx} (h : Tks s k e T) : s.extract k e = catT T := by
  induction h with
  | nil k =>
    apply ByteArray.ext
    simp [catT]
  | tok k e e' T hk hb hc h0 he h ih =>
    have t2 := (tok_shape s k hk).2.resolve_left (by simp [h0])
    have hs := h.sum.1
    rw [ext_split s k e' e (by omega) (by omega), ih, catT, t2.2.2.2.2.2.2, he]
    rfl

theorem Sub.com_up2 {s u : ByteArray} {o : Nat} (h : Sub s u o) (k : Nat) (hk : k + 1 < u.size) : comB s (o + k) = comB u k := by
  simp only [comB, h.two k hk]

/-- a stretch with two more bytes behind it stays, whatever comes behind them -/
theorem Sub.tks_up2 {s u : ByteArray} {o : Nat} (h : Sub s u o) {k e : Nat} {T : List Nx} (ht : Tks u k e T) : e + 2 ≤ u.size → Tks s (o + k) (o + e) (T.map (·.sh o)) := by
  induction ht with
  | nil k => exact fun _ => .nil _
  | tok k e e' T hk hb hc h0 he h1 ih =>
    intro hle
    have hs := h1.sum.1
    have hl := h.le
    have ht := h.tok_up2 k hk h0 (by omega)
    have : Tks s (o + k) (o + e) (tokR s (o + k) :: T.map (·.sh o)) := by
      refine .tok (o + k) (o + e) (o + e') _ (by omega) (by rw [← h.bt k hk]; exact hb) ?_ (by rw [ht]; exact h0) (by rw [ht]; show (tokR u k).fin + o = _; omega) (ih hle)
      rw [h.com_up2 k (by have t2 := (tok_shape u k hk).2.resolve_left (by simp [h0]); omega)]
      exact hc
    rw [ht] at this
    exact this

theorem sumT_sh (o : Nat) : ∀ T : List Nx, sumT (T.map (·.sh o)) = sumT T
  | [] => rfl
  | x :: T => by simp only [List.map_cons, sumT, sumT_sh o T]; rfl
theorem catT_sh (o : Nat) : ∀ T : List Nx, catT (T.map (·.sh o)) = catT T
  | [] => rfl
  | x :: T => by simp only [List.map_cons, catT, catT_sh o T]; rfl
theorem sumT_app : ∀ T U : List Nx, sumT (T ++ U) = sumT T + sumT U
  | [], U => by simp [sumT]
  | x :: T, U => by simp only [List.cons_append, sumT, sumT_app T U]; omega
theorem catT_app : ∀ T U : List Nx, catT (T ++ U) = catT T ++ catT U
  | [], U => (ByteArray.empty_append).symm
  | x :: T, U => by simp only [List.cons_append, catT, catT_app T U, ByteArray.append_assoc]
theorem catT_size : ∀ T : List Nx, (catT T).size = sumT T
  | [] => rfl
  | x :: T => by simp only [catT, sumT, ByteArray.size_append, catT_size T]

/-- a piece at the end is read as in the whole -/
theorem Sub.tks_up {s u : ByteArray} {o : Nat} (h : Sub s u o) (hs : Stop s u o) {k e : Nat} {T : List Nx} (ht : Tks u k e T) (hk : k ≤ u.size) : Tks s (o + k) (o + e) (T.map (·.sh o)) := by
  have h1 := h.up hs ht.toks (.inl rfl)
  have hl := h.le
  refine (h1.tks (by omega)).2 ?_
  rw [sumT_sh]
  have := ht.sum.1
  omega
theorem Sub.tks_dn {s u : ByteArray} {o : Nat} (h : Sub s u o) {k e : Nat} {T : List Nx} (ht : Tks s (o + k) (o + e) T) (hk : k ≤ u.size) (he : e ≤ u.size) : ∃ T', T = T'.map (·.sh o) ∧ Tks u k e T' := by
  obtain ⟨T', C', h1, h2, h3⟩ := h.dn ht.toks k e rfl rfl he
  refine ⟨T', h1, (h3.tks hk).2 ?_⟩
  have := ht.sum.1
  rw [h1, sumT_sh] at this
  omega
end Go.VM
