/- Part of the proof: X28. -/
import Derived.Test.YtcpdnjehmnbheaaDoorX27
namespace Go.VM
open Go.Proofs Go
set_option maxRecDepth 100000
set_option linter.unusedVariables false
set_option linter.unusedSimpArgs false

/-- the last place, among the first so many, that is c; -1 -/
def lastN (s : ByteArray) (c : Int) : Nat → Int
  | 0 => -1
  | k + 1 => if btF s k = c then k else lastN s c k
def countN (s : ByteArray) (c : Int) : Nat → Int
  | 0 => 0
  | k + 1 => countN s c k + (if btF s k = c then 1 else 0)
theorem countN_bounds (s : ByteArray) (c : Int) : ∀ k : Nat, 0 ≤ countN s c k ∧ countN s c k ≤ k
  | 0 => by simp [countN]
  | k + 1 => by
    have := countN_bounds s c k
    unfold countN
    split <;> omega
theorem lastN_bounds (s : ByteArray) (c : Int) : ∀ k : Nat, -1 ≤ lastN s c k ∧ lastN s c k < k
  | 0 => by simp [lastN]
  | k + 1 => by
    have := lastN_bounds s c k
    unfold lastN
    split <;> omega
theorem pos_law (s : ByteArray) : ∀ k : Nat, posR s k = (countN s 10 k + 1, k - lastN s 10 k)
  | 0 => by simp [posR, countN, lastN]
  | k + 1 => by
    rw [posR, pos_law s k, countN, lastN]
    split <;> simp <;> omega

theorem f51 (s : ByteArray) (c : Int) (hs : s.size < 2 ^ 40) : VFun (P ()) 51 [.d (.str s), .d (.int .u8 c)] (fun r => ∃ x, x = lastN s c s.size ∧ r = .d (.int .i64 x)) := by
  refine vfunO (Tf := @T) @tabOk [] 400 Tryd.func51 rfl (fun {_} => by kernel_rfl) rfl (Nat.le_of_ble_eq_true rfl) @fun ⟨_, _, _, _, _, _, _, _, _, _, _, _, _, _, _, _, _, _, _, _, _, _, _, _, _, _, _, _, _, _, _, _, _, _, _, _, _, _, wp, wf⟩ R hR => ?_
  cbv
  try simp only [wp, getL, takeL, dropL, TK.isAgg, reduceIte]
  replace hR := fun x H h => hR _ H _ (.d (.int .i64 x)) ⟨x, h, rfl⟩
  refine loopO (Tf := @T) @tabOk [] 400 (fun y : Nat × Int => ⟨mk 19 [(0, .d (.str s)), (1, .d (.int .u8 c)), (5, .d (.int .i64 y.2))], []⟩) (fun y => y.1) (fun y => y.1 ≤ s.size ∧ y.2 = y.1 - 1 ∧ lastN s c y.1 = lastN s c s.size) (s.size, (s.size : Int) - 1) ⟨Nat.le_refl _, rfl, rfl⟩ (fun {_} => by kernel_rfl) ?_ (fun y => rfl) @fun ⟨_, _, _, _, _, _, _, _, _, _, _, _, _, _, _, _, _, _, _, _, _, _, _, _, _, _, _, _, _, _, _, _, _, _, _, _, _, _, wpa, wfa⟩ ⟨j, i⟩ Bk hy hBk => ?_
  · generalize hq : (s.size : Int) - 1 = q
    (cbv; try simp only [wf, exD, exL, exT, exB, exA, leLs, leL_d, leL_undef, deq_refl, deq_int, deq_bool, deq_str, and_true, true_and, AObj.iter.injEq, nc, nc']; try simp (disch := omega) only [w64, w32, wu8])
    first | (rw [← hq]; done) | (rw [← hq, w64 (by omega) (by omega)])
  (cbv; try simp only [wp, wpa, getL, takeL, dropL, TK.isAgg, reduceIte])
  obtain ⟨y1, y2, y3⟩ := hy
  dsimp only at y1 y2 y3
  (try simp only [nc, nc'] at *)
  refine ⟨fun e0 => ?_, fun e0 => ?_⟩
  · have e0 : 0 ≤ i := (by (try simp only [wf, wfa, nc, nc', Int.toNat_natCast] at *); (try simp (disch := omega) only [w64, w32, wu8] at *); omega)
    obtain ⟨j', rfl⟩ : ∃ j', j = j' + 1 := ⟨j - 1, by omega⟩
    have hi : i = j' := by omega
    subst hi
    obtain ⟨i2, hi2⟩ : ∃ i2, i2 = (j' : Int) - 1 := ⟨_, rfl⟩
    (refine Later.mk ?_; cbv; try simp only [wp, wpa, getL, takeL, dropL, TK.isAgg, reduceIte])
    refine ⟨(by (try simp only [wf, wfa, nc, nc', Int.toNat_natCast] at *); (try simp (disch := omega) only [w64, w32, wu8] at *); omega), (by (try simp only [wf, wfa, nc, nc', Int.toNat_natCast] at *); (try simp (disch := omega) only [w64, w32, wu8] at *); omega), fun c1 => ?_, fun c1 => ?_⟩
    · have c1 : btF s j' = c := by ((try simp only [wf, wfa, nc, nc', Int.toNat_natCast] at *); (try simp (disch := omega) only [w64, w32, wu8] at *)); exact c1
      (refine Later.mk ?_; cbv; try simp only [wp, wpa, getL, takeL, dropL, TK.isAgg, reduceIte])
      refine hR _ _ ?_
      rw [← y3, lastN, if_pos c1]
      ((try simp only [wf, wfa, nc, nc', Int.toNat_natCast] at *); (try simp (disch := omega) only [w64, w32, wu8] at *))
    · have c1 : ¬ btF s j' = c := by ((try simp only [wf, wfa, nc, nc', Int.toNat_natCast] at *); (try simp (disch := omega) only [w64, w32, wu8] at *)); exact c1
      (refine Later.mk ?_; cbv; try simp only [wp, wpa, getL, takeL, dropL, TK.isAgg, reduceIte])
      refine hBk (j', i2) _ (by dsimp only; omega) ⟨by dsimp only; omega, hi2, by dsimp only; rw [← y3, lastN, if_neg c1]⟩ ?_
      (cbv; try simp only [wf, wfa, exD, exL, exT, exB, exA, leLs, leL_d, leL_undef, deq_refl, deq_int, deq_bool, deq_str, and_true, true_and, AObj.iter.injEq, nc, nc']; try simp (disch := omega) only [w64, w32, wu8])
      (try simp only [nc, nc'] at *)
      first | omega | (rw [w64 (by omega) (by omega)]; omega)
  · have e0 : i < 0 := (by (try simp only [wf, wfa, nc, nc', Int.toNat_natCast] at *); (try simp (disch := omega) only [w64, w32, wu8] at *); omega)
    have : j = 0 := by omega
    subst this
    (refine Later.mk ?_; cbv; try simp only [wp, wpa, getL, takeL, dropL, TK.isAgg, reduceIte])
    refine hR _ _ ?_
    rw [← y3]; rfl
theorem f35 (s : ByteArray) (c : Int) (hs : s.size < 2 ^ 40) : VFun (P ()) 35 [.d (.str s), .d (.int .u8 c)] (fun r => ∃ x, x = lastN s c s.size ∧ r = .d (.int .i64 x)) := by
  refine vfunO (Tf := @T) @tabOk [] 400 Tryd.func35 rfl (fun {_} => by kernel_rfl) rfl (Nat.le_of_ble_eq_true rfl) @fun ⟨_, _, _, _, _, _, _, _, _, _, _, _, _, _, _, _, _, _, _, _, _, _, _, _, _, _, _, _, _, _, _, _, _, _, _, _, _, _, wp, wf⟩ R hR => ?_
  cbv
  try simp only [wp, getL, takeL, dropL, TK.isAgg, reduceIte]
  replace hR := fun x H h => hR _ H _ (.d (.int .i64 x)) ⟨x, h, rfl⟩
  refine (f51 s c hs).call ?_
  rintro _ ⟨x, hx, rfl⟩
  (cbv; try simp only [wp, getL, takeL, dropL, TK.isAgg, reduceIte])
  exact hR _ _ hx
end Go.VM
