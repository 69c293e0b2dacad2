/- Part of the proof: X27. -/
import Derived.Test.YtcpdnjehmnbheaaDoorX26
namespace Go.VM
open Go.Proofs Go
set_option maxRecDepth 100000
set_option linter.unusedVariables false
set_option linter.unusedSimpArgs false

/-- line and column behind so many bytes -/
def posR (s : ByteArray) : Nat → Int × Int
  | 0 => (1, 1)
  | k + 1 => if btF s k = 10 then ((posR s k).1 + 1, 1) else ((posR s k).1, (posR s k).2 + 1)
theorem posR_bounds (s : ByteArray) : ∀ k : Nat, 1 ≤ (posR s k).1 ∧ (posR s k).1 ≤ k + 1 ∧ 1 ≤ (posR s k).2 ∧ (posR s k).2 ≤ k + 1
  | 0 => by simp [posR]
  | k + 1 => by
    have := posR_bounds s k
    unfold posR
    split <;> simp <;> omega

theorem f20 (s : ByteArray) (i : Int) (hs : s.size < 2 ^ 40) : VFun (P ()) 20 [.d (.str s), .d (.int .i64 i)] (fun r => ∃ a b c : Int, (a, b, c) = (if i < 0 ∨ s.size < i then (0, 0, 1) else ((posR s i.toNat).1, (posR s i.toNat).2, 0)) ∧ r = .tup [.d (.int .i64 a), .d (.int .i64 b), .d (.int .i64 c)]) := by
  refine vfunO (Tf := @T) @tabOk [] 400 Tryd.func20 rfl (fun {_} => by kernel_rfl) rfl (Nat.le_of_ble_eq_true rfl) @fun ⟨_, _, _, _, _, _, _, _, _, _, _, _, _, _, _, _, _, _, _, _, _, _, _, _, _, _, _, _, _, _, _, _, _, _, _, _, _, _, wp, wf⟩ R hR => ?_
  cbv
  try simp only [wp, getL, takeL, dropL, TK.isAgg, reduceIte]
  replace hR := fun a b c H h => hR _ H _ (.tup3 (.d (.int .i64 a)) (.d (.int .i64 b)) (.d (.int .i64 c))) ⟨a, b, c, h, rfl⟩
  refine ⟨fun h => ?_, fun h => ⟨fun h2 => ?_, fun h2 => ?_⟩⟩
  · (refine Later.mk ?_; cbv; try simp only [wp, getL, takeL, dropL, TK.isAgg, reduceIte])
    exact hR _ _ _ _ (by rw [if_pos (.inl h)])
  · (refine Later.mk ?_; cbv; try simp only [wp, getL, takeL, dropL, TK.isAgg, reduceIte])
    exact hR _ _ _ _ (by rw [if_pos (.inr (by (try simp only [wf, nc, nc', Int.toNat_natCast] at *); (try simp (disch := omega) only [w64, w32, wu8] at *); omega))])
  · (refine Later.mk ?_; cbv; try simp only [wp, getL, takeL, dropL, TK.isAgg, reduceIte])
    obtain ⟨k, rfl⟩ : ∃ k : Nat, i = k := ⟨i.toNat, by omega⟩
    have hk : k ≤ s.size := (by (try simp only [wf, nc, nc', Int.toNat_natCast] at *); (try simp (disch := omega) only [w64, w32, wu8] at *); omega)
    refine loopO (Tf := @T) @tabOk [] 400 (fun y : Nat × Int × Int => ⟨mk 33 [(0, .d (.str s)), (1, .d (.int .i64 (k : Int))), (7, .d (.int .i64 y.2.1)), (8, .d (.int .i64 y.2.2)), (9, .d (.int .i64 y.1))], []⟩) (fun y => k - y.1) (fun y => y.1 ≤ k ∧ y.2 = posR s y.1) (0, 1, 1) ⟨by simp, rfl⟩ (fun {_} => by kernel_rfl) ?_ (fun y => rfl) @fun ⟨_, _, _, _, _, _, _, _, _, _, _, _, _, _, _, _, _, _, _, _, _, _, _, _, _, _, _, _, _, _, _, _, _, _, _, _, _, _, wpa, wfa⟩ ⟨j, l, c⟩ Bk hy hBk => ?_
    · (cbv; try simp only [wf, exD, exL, exT, exB, exA, leLs, leL_d, leL_undef, deq_refl, deq_int, deq_bool, deq_str, and_true, true_and, AObj.iter.injEq, nc, nc']; try simp (disch := omega) only [w64, w32, wu8])
      rfl
    (cbv; try simp only [wp, wpa, getL, takeL, dropL, TK.isAgg, reduceIte])
    obtain ⟨y1, y2⟩ := hy
    dsimp only at y1 y2
    have hb := posR_bounds s j
    obtain ⟨j2, hj2⟩ : ∃ j2, j2 = j + 1 := ⟨_, rfl⟩
    obtain ⟨l2, hl2⟩ : ∃ l2, l2 = l + 1 := ⟨_, rfl⟩
    obtain ⟨c2, hc2⟩ : ∃ c2, c2 = c + 1 := ⟨_, rfl⟩
    rw [← y2] at hb
    dsimp only at hb
    refine ⟨fun e0 => ?_, fun e0 => ?_⟩
    · have e0 : j < k := (by (try simp only [wf, wfa, nc, nc', Int.toNat_natCast] at *); (try simp (disch := omega) only [w64, w32, wu8] at *); omega)
      (refine Later.mk ?_; cbv; try simp only [wp, wpa, getL, takeL, dropL, TK.isAgg, reduceIte])
      refine ⟨(by (try simp only [wf, wfa, nc, nc', Int.toNat_natCast] at *); (try simp (disch := omega) only [w64, w32, wu8] at *); omega), (by (try simp only [wf, wfa, nc, nc', Int.toNat_natCast] at *); (try simp (disch := omega) only [w64, w32, wu8] at *); omega), fun c1 => ?_, fun c1 => ?_⟩
      · have c1 : btF s j = 10 := by ((try simp only [wf, wfa, nc, nc', Int.toNat_natCast] at *); (try simp (disch := omega) only [w64, w32, wu8] at *)); exact c1
        (refine Later.mk ?_; cbv; try simp only [wp, wpa, getL, takeL, dropL, TK.isAgg, reduceIte])
        refine hBk (j2, l2, 1) _ (by dsimp only; omega) ⟨by dsimp only; omega, by dsimp only; rw [hj2, posR, if_pos c1, ← y2, hl2]⟩ ?_
        (cbv; try simp only [wf, wfa, exD, exL, exT, exB, exA, leLs, leL_d, leL_undef, deq_refl, deq_int, deq_bool, deq_str, and_true, true_and, AObj.iter.injEq, nc, nc']; try simp (disch := omega) only [w64, w32, wu8])
        (try simp only [nc, nc'] at *)
        refine ⟨?_, ?_⟩ <;> first | omega | (rw [w64 (by omega) (by omega)]; omega)
      · have c1 : ¬ btF s j = 10 := by ((try simp only [wf, wfa, nc, nc', Int.toNat_natCast] at *); (try simp (disch := omega) only [w64, w32, wu8] at *)); exact c1
        (refine Later.mk ?_; cbv; try simp only [wp, wpa, getL, takeL, dropL, TK.isAgg, reduceIte])
        refine hBk (j2, l, c2) _ (by dsimp only; omega) ⟨by dsimp only; omega, by dsimp only; rw [hj2, posR, if_neg c1, ← y2, hc2]⟩ ?_
        (cbv; try simp only [wf, wfa, exD, exL, exT, exB, exA, leLs, leL_d, leL_undef, deq_refl, deq_int, deq_bool, deq_str, and_true, true_and, AObj.iter.injEq, nc, nc']; try simp (disch := omega) only [w64, w32, wu8])
        (try simp only [nc, nc'] at *)
        refine ⟨?_, ?_⟩ <;> first | omega | (rw [w64 (by omega) (by omega)]; omega)
    · have e0 : j = k := (by (try simp only [wf, wfa, nc, nc', Int.toNat_natCast] at *); (try simp (disch := omega) only [w64, w32, wu8] at *); omega)
      (refine Later.mk ?_; cbv; try simp only [wp, wpa, getL, takeL, dropL, TK.isAgg, reduceIte])
      refine hR _ _ _ _ ?_
      (try simp only [nc, nc'] at *)
      rw [if_neg (by omega), Int.toNat_natCast, ← e0, ← y2]
end Go.VM
