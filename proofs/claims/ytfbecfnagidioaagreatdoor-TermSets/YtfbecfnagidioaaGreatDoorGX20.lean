/- Part of the proof: TT23. -/
import Derived.Test.YtfbecfnagidioaaGreatDoorGX19
import Derived.Test.YtfbecfnagidioaaGreatDoorGX17
namespace Go.VM
open Go.Proofs Go
set_option maxRecDepth 100000
set_option linter.unusedVariables false
set_option linter.unusedSimpArgs false
theorem FreeT (t : Tm) (hs : 4 * nodesT t ≤ 4194304) : VFun (P ()) 20 [tm t] (fun r => r = .d (.int .i64 (freeT t 0))) := by
  have hw := mappedF t 0 hs (by decide) (by decide)
  have hx : runT stFr t 0 0 = freeT t 0 := by rw [runT_fr _ _ _ (by decide)]; have := freeT_ge t 0; omega
  rw [hx] at hw
  clear hx
  unfold tm at hw ⊢
  obtain ⟨f, hf⟩ : ∃ f, f = tmD t := ⟨_, rfl⟩
  obtain ⟨g, hg⟩ : ∃ g, g = freeT t 0 := ⟨_, rfl⟩
  rw [← hf, ← hg] at hw ⊢
  clear hf hg
  refine vfunL (Tf := fun {_} _ => fzT [1] (T ())) (fun {_} => tabOk.frz [1]) [] 400 Tryz.func20 rfl (fun {_} => by kernel_rfl) rfl (Nat.le_of_ble_eq_true rfl) @fun ⟨_, _, _, _, _, _, _, _, _, _, _, _, _, _, _, _, _, _, _, _, _, _, _, _, _, _, _, _, _, _, _, _, _, _, _, _, _, _, wp, wf⟩ R hR => ?_
  cbv
  try simp only [wp, (show ∀ n : Nat, _ = n from fun n => wf.2.2.2.2.2.2.2.2.2.2.2.2.2.1 (Int.ofNat n)), getL, takeL, dropL, TK.isAgg, reduceIte]
  repeat' first | (with_reducible refine And.intro ?_ ?_) | intro c9 | trivial | (refine Later.mk ?_; cbv; try simp only [wp, (show ∀ n : Nat, _ = n from fun n => wf.2.2.2.2.2.2.2.2.2.2.2.2.2.1 (Int.ofNat n)), (show _ = (0 : Nat) from wf.2.2.2.2.2.2.2.2.2.2.2.2.2.1 0), getL, takeL, dropL, TK.isAgg, reduceIte])
  refine CallW.within hw [0] rfl ⟨rfl, trivial⟩ rfl ?_
  rintro _ _ ⟨K2, rfl, rfl⟩
  refine ⟨hpF1 g, K2, rfl, Nat.le_refl _, ⟨trivial, trivial⟩, rfl, ?_⟩
  (cbv; try simp only [wp, (show ∀ n : Nat, _ = n from fun n => wf.2.2.2.2.2.2.2.2.2.2.2.2.2.1 (Int.ofNat n)), (show _ = (0 : Nat) from wf.2.2.2.2.2.2.2.2.2.2.2.2.2.1 0), getL, takeL, dropL, TK.isAgg, reduceIte])
  repeat' first | (with_reducible refine And.intro ?_ ?_) | intro c9 | trivial | (refine Later.mk ?_; cbv; try simp only [wp, (show ∀ n : Nat, _ = n from fun n => wf.2.2.2.2.2.2.2.2.2.2.2.2.2.1 (Int.ofNat n)), (show _ = (0 : Nat) from wf.2.2.2.2.2.2.2.2.2.2.2.2.2.1 0), getL, takeL, dropL, TK.isAgg, reduceIte])
  all_goals exact hR _ _ _ (.d _) rfl
end Go.VM
