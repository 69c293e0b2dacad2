/- Part of the proof: X30. -/
import Derived.Test.YtcpdnjehmnbheaaDoorX29
namespace Go.VM
open Go.Proofs Go
set_option maxRecDepth 100000
set_option linter.unusedVariables false
set_option linter.unusedSimpArgs false

def fewB (S : Nat → ByteArray) (n : Nat) : Prop := n ≤ 200 ∧ ∀ i, i < n → (S i).size ≤ 200
theorem f16 (n : Nat) (K O : Nat → Int) (S : Nat → ByteArray) (hn : n < 2 ^ 63) : VFun (P ()) 16 [.d (.sl n 3 (tokF K S O))] (fun r => ∃ b : Bool, (b = true ↔ fewB S n) ∧ r = .d (.bool b)) := by
  refine vfunO (Tf := @T) @tabOk [] 400 Tryd.func16 rfl (fun {_} => by kernel_rfl) rfl (Nat.le_of_ble_eq_true rfl) @fun ⟨_, _, _, _, _, _, _, _, _, _, _, _, _, _, _, _, _, _, _, _, _, _, _, _, _, _, _, _, _, _, _, _, _, _, _, _, _, _, wp, wf⟩ R hR => ?_
  cbv
  try simp only [wp, getL, takeL, dropL, TK.isAgg, reduceIte]
  replace hR := fun b H h => hR _ H _ (.d (.bool b)) ⟨b, h, rfl⟩
  refine loopO (Tf := @T) @tabOk [] 400 (fun i : Nat => ⟨mk 21 [(0, .d (.sl n 3 (tokF K S O))), (3, .d (.int .i64 i))], []⟩) (fun i => n - i) (fun i => i ≤ n ∧ i ≤ 200 ∧ ∀ q, q < i → (S q).size ≤ 200) 0 ⟨by omega, by omega, fun q h => by omega⟩ (fun {_} => by kernel_rfl) ?_ (fun i => rfl) @fun ⟨_, _, _, _, _, _, _, _, _, _, _, _, _, _, _, _, _, _, _, _, _, _, _, _, _, _, _, _, _, _, _, _, _, _, _, _, _, _, wpa, wfa⟩ i Bk hi hBk => ?_
  · (cbv; try simp only [wf, exD, exL, exT, exB, exA, leLs, leL_d, leL_undef, deq_refl, deq_int, deq_bool, deq_str, and_true, true_and, AObj.iter.injEq, nc, nc']; try simp (disch := omega) only [w64, w32, wu8])
    rfl
  (cbv; try simp only [wp, wpa, getL, takeL, dropL, TK.isAgg, reduceIte])
  obtain ⟨y1, y2, y3⟩ := hi
  obtain ⟨i2, hi2⟩ : ∃ i2, i2 = i + 1 := ⟨_, rfl⟩
  refine ⟨fun e0 => ?_, fun e0 => ?_⟩
  · have e0 : i < n := (by (try simp only [wf, wfa, nc, nc', Int.toNat_natCast] at *); (try simp (disch := omega) only [w64, w32, wu8] at *); omega)
    (refine Later.mk ?_; cbv; try simp only [wp, wpa, getL, takeL, dropL, TK.isAgg, reduceIte])
    refine ⟨fun c1 => ?_, fun c1 => ?_⟩
    · (refine Later.mk ?_; cbv; try simp only [wp, wpa, getL, takeL, dropL, TK.isAgg, reduceIte])
      exact hR _ _ ⟨fun h => (by cases h), fun h => absurd h.1 (by (try simp only [wf, wfa, nc, nc', Int.toNat_natCast] at *); (try simp (disch := omega) only [w64, w32, wu8] at *); omega)⟩
    · repeat' first | with_reducible refine And.intro ?_ ?_ | intro c9
      all_goals first
        | exact (by (try simp only [wf, wfa, nc, nc', Int.toNat_natCast] at *); (try simp (disch := omega) only [w64, w32, wu8] at *); omega)
        | trivial
        | ((refine Later.mk ?_; cbv; try simp only [wp, wpa, getL, takeL, dropL, TK.isAgg, reduceIte])
           exact hR _ _ ⟨fun h => (by cases h), fun h => by have := h.2 i e0; exact absurd this (by ((try simp only [wf, wfa, nc, nc', Int.toNat_natCast] at *); (try simp (disch := omega) only [w64, w32, wu8] at *)); omega)⟩)
        | ((refine Later.mk ?_; cbv; try simp only [wp, wpa, getL, takeL, dropL, TK.isAgg, reduceIte])
           refine hBk i2 _ (by omega) ⟨by omega, (by (try simp only [wf, wfa, nc, nc', Int.toNat_natCast] at *); (try simp (disch := omega) only [w64, w32, wu8] at *); omega), fun q hq => by by_cases e : q = i; exact e ▸ (by ((try simp only [wf, wfa, nc, nc', Int.toNat_natCast] at *); (try simp (disch := omega) only [w64, w32, wu8] at *)); omega); exact y3 q (by omega)⟩ ?_
           (cbv; try simp only [wf, wfa, exD, exL, exT, exB, exA, leLs, leL_d, leL_undef, deq_refl, deq_int, deq_bool, deq_str, and_true, true_and, AObj.iter.injEq, nc, nc']; try simp (disch := omega) only [w64, w32, wu8])
           omega)
  · have e0 : i = n := (by (try simp only [wf, wfa, nc, nc', Int.toNat_natCast] at *); (try simp (disch := omega) only [w64, w32, wu8] at *); omega)
    (refine Later.mk ?_; cbv; try simp only [wp, wpa, getL, takeL, dropL, TK.isAgg, reduceIte])
    exact hR _ _ ⟨fun _ => ⟨by omega, fun q hq => y3 q (by omega)⟩, fun _ => rfl⟩
end Go.VM
