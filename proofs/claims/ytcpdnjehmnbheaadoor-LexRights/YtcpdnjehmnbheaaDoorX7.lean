/- Contracts of the functions that the law reaches: part of the proof (X7). -/
import Derived.Test.YtcpdnjehmnbheaaDoorX6
namespace Go.VM
open Go.Proofs Go
set_option maxRecDepth 100000
set_option linter.unusedVariables false
set_option linter.unusedSimpArgs false

/-- the number of the digits from a place to another one, no greater than 1,000,000,001 -/
def numF (s : ByteArray) : Nat → Nat → Int → Int
  | _, 0, a => a
  | i, n + 1, a => numF s (i + 1) n (min (10 * a + (btF s i - 48)) 1000000001)

theorem f59 (s : ByteArray) (hd : ∀ i : Nat, i < s.size → digitB (btF s i) = true) (hs : s.size < 2 ^ 40) : VFun (P ()) 59 [.d (.str s)] (fun r => ∃ b : Bool, b = decide (numF s 0 s.size 0 > 1000000000) ∧ r = .d (.bool b)) := by
  refine vfun (Tf := @T) @tabOk Tryd.func59 rfl rfl (Nat.le_of_ble_eq_true rfl) @fun ⟨_, _, _, _, _, _, _, _, _, _, _, _, _, _, _, _, _, _, _, _, _, _, _, _, _, _, _, _, _, _, _, _, _, _, _, _, _, _, wp, wf⟩ R hR => ?_
  cbv
  try simp only [wp, getL, takeL, dropL, TK.isAgg, reduceIte]
  replace hR := fun b H h => hR _ H _ (.d (.bool b)) ⟨b, h, rfl⟩
  refine loopV (Tf := @T) @tabOk (fun q : Nat × Int => ⟨mk 19 [(0, .d (.str s)), (2, .d (.bool false)), (3, .d (.int .i64 q.2)), (7, .itr 0)], [.iter s q.1]⟩) (fun q => s.size - q.1) (fun q => q.1 ≤ s.size ∧ 0 ≤ q.2 ∧ q.2 ≤ 1000000000 ∧ numF s q.1 (s.size - q.1) q.2 = numF s 0 s.size 0) (0, 0) ⟨by omega, by omega, by omega, rfl⟩ ?_ (fun q => rfl) @fun ⟨_, _, _, _, _, _, _, _, _, _, _, _, _, _, _, _, _, _, _, _, _, _, _, _, _, _, _, _, _, _, _, _, _, _, _, _, _, _, wpa, wfa⟩ ⟨p, n⟩ Bk hi hBk => ?_
  · (cbv; try simp only [wf, exD, exL, exT, exB, exA, leLs, leL_d, leL_undef, deq_refl, deq_int, deq_bool, deq_str, and_true, true_and, AObj.iter.injEq, nc, nc']; try simp (disch := omega) only [w64, w32, wu8])
    done
  (cbv; try simp only [wp, wpa, getL, takeL, dropL, TK.isAgg, reduceIte])
  obtain ⟨q1, q2, q3, q4⟩ := hi
  dsimp only at q1 q2 q3 q4
  refine ⟨fun e => ?_, fun e => ?_⟩
  · have hlt : p < s.size := (by (try simp only [wf, wfa, nc, nc'] at *); (try simp (disch := omega) only [w64, w32, wu8] at *); omega)
    have hdp := hd p hlt
    obtain ⟨r1, r2⟩ := rune_p digitB digit_hi s p hlt
    obtain ⟨w1, r3⟩ := r2 hdp
    have hb1 : 48 ≤ btF s p ∧ btF s p ≤ 57 := by simpa [digitB] using hdp
    have hu : numF s p (s.size - p) n = numF s (p + 1) (s.size - (p + 1)) (min (10 * n + (btF s p - 48)) 1000000001) := by
      rw [show s.size - p = s.size - (p + 1) + 1 by omega]
      rfl
    obtain ⟨m, hm⟩ : ∃ m, m = 10 * n + (btF s p - 48) := ⟨_, rfl⟩
    rw [← hm] at hu
    have hv : IntKind.i64.wrap (IntKind.i64.wrap (n * 10) + IntKind.i64.wrap (IntKind.i32.wrap (runeF s p - 48))) = m := by
      rw [r3]
      simp (disch := omega) only [w64, w32]
      omega
    have hbig : ∀ (k i : Nat), numF s i k 1000000001 = 1000000001 ∨ ∃ j : Nat, i ≤ j ∧ j < i + k ∧ ¬ (0 ≤ btF s j - 48) := by
      intro k
      induction k with
      | zero => intro i; exact .inl rfl
      | succ k ih =>
        intro i
        by_cases h0 : 0 ≤ btF s i - 48
        · have e1 : min (10 * 1000000001 + (btF s i - 48)) 1000000001 = 1000000001 := by omega
          rcases ih (i + 1) with h | ⟨j, h1, h2, h3⟩
          · left
            rw [numF, e1]
            exact h
          · exact .inr ⟨j, by omega, by omega, h3⟩
        · exact .inr ⟨i, by omega, by omega, h0⟩
    refine ⟨fun c => ?_, fun c => ?_⟩
    · have c : 1000000000 < m := by rw [← hv]; simp only [wf, wfa, nc, nc'] at c; exact c
      apply hR
      rw [← q4, hu, show min m 1000000001 = 1000000001 by omega]
      rcases hbig (s.size - (p + 1)) (p + 1) with h | ⟨j, h1, h2, h3⟩
      · rw [h]; rfl
      · have := hd j (by omega)
        simp only [nc] at *
        simp [digitB] at this
        omega
    · have c : m ≤ 1000000000 := by rw [← hv]; simp only [wf, wfa, nc, nc'] at c; exact c
      refine hBk (p + 1, m) _ (by dsimp only; omega) ⟨by dsimp only; omega, by dsimp only; omega, c, ?_⟩ ?_
      · dsimp only
        rw [← q4, hu, show min m 1000000001 = m by omega]
      · cbv
        simp only [wf, wfa, exD, deq_int, deq_str, deq_bool, and_true, true_and, AObj.iter.injEq]
        exact ⟨hv, by rw [w1]⟩
  · apply hR
    have : p = s.size := (by (try simp only [wf, wfa, nc, nc'] at *); (try simp (disch := omega) only [w64, w32, wu8] at *); omega)
    subst this
    rw [← q4, show s.size - s.size = 0 by omega]
    simp only [numF]
    exact (decide_eq_false (by omega)).symm
end Go.VM
