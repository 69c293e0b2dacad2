/- Part of the proof: TT3. -/
import Derived.Test.YtfbecfnagidioaaGreatDoorGX11
namespace Go.VM
open Go.Proofs Go
set_option maxRecDepth 100000
set_option linter.unusedVariables false
set_option linter.unusedSimpArgs false
/-- the word of an Op -/
def wordL : List (List UInt8) := [[], [35], [64], [116, 121, 112, 101], [112, 114, 111, 112], [112, 105], [108, 97, 109], [97, 112, 112], [115, 105, 103], [112, 97, 105, 114], [102, 115, 116], [115, 110, 100], [117, 110, 105, 116], [115, 116, 97, 114], [116, 114, 117, 101], [116, 114, 105, 118, 105, 97, 108], [102, 97, 108, 115, 101], [97, 98, 115, 117, 114, 100], [101, 113], [114, 101, 102, 108], [115, 117, 98, 115, 116], [99, 97, 115, 116], [99, 111, 104], [113, 117, 111], [99, 108, 97, 115, 115], [111, 117, 116], [100, 97, 116, 97], [99, 111, 110], [101, 108, 105, 109], [63], [112, 114, 111, 111, 102]]
def wordT (op : Int) : ByteArray := ⟨⟨wordL.getD op.toNat []⟩⟩
theorem of_1 : VFun (P ()) 100 [.d (.int .i64 1)] (fun r => r = .tup [.agg [.d (.str ⟨⟨[35]⟩⟩), .d (.int .i64 (8)), .d (.int .i64 (0))], .d (.bool true)]) := by
  refine vfunO (Tf := fun {_} _ => fzT [] (T ())) (fun {_} => tabOk.frz []) [] 400 Tryz.func100 rfl (fun {_} => by kernel_rfl) rfl (Nat.le_of_ble_eq_true rfl) @fun ⟨_, _, _, _, _, _, _, _, _, _, _, _, _, _, _, _, _, _, _, _, _, _, _, _, _, _, _, _, _, _, _, _, _, _, _, _, _, _, wp, wf⟩ R hR => ?_
  cbv
  try simp only [wp, (show ∀ n : Nat, _ = n from fun n => wf.2.2.2.2.2.2.2.2.2.2.2.2.2.1 (Int.ofNat n)), getL, takeL, dropL, TK.isAgg, reduceIte]
  refine ⟨fun h => absurd h (by omega), fun _ => ⟨fun h => absurd h (by omega), fun _ => ?_⟩⟩
  (refine Later.mk ?_; cbv; try simp only [wp, (show ∀ n : Nat, _ = n from fun n => wf.2.2.2.2.2.2.2.2.2.2.2.2.2.1 (Int.ofNat n)), (show _ = (0 : Nat) from wf.2.2.2.2.2.2.2.2.2.2.2.2.2.1 0), getL, takeL, dropL, TK.isAgg, reduceIte])
  exact hR _ _ _ (.tup2 (.aggD [.str _, .int .i64 _, .int .i64 _]) (.d _)) rfl
theorem of_2 : VFun (P ()) 100 [.d (.int .i64 2)] (fun r => r = .tup [.agg [.d (.str ⟨⟨[64]⟩⟩), .d (.int .i64 (5)), .d (.int .i64 (0))], .d (.bool true)]) := by
  refine vfunO (Tf := fun {_} _ => fzT [] (T ())) (fun {_} => tabOk.frz []) [] 400 Tryz.func100 rfl (fun {_} => by kernel_rfl) rfl (Nat.le_of_ble_eq_true rfl) @fun ⟨_, _, _, _, _, _, _, _, _, _, _, _, _, _, _, _, _, _, _, _, _, _, _, _, _, _, _, _, _, _, _, _, _, _, _, _, _, _, wp, wf⟩ R hR => ?_
  cbv
  try simp only [wp, (show ∀ n : Nat, _ = n from fun n => wf.2.2.2.2.2.2.2.2.2.2.2.2.2.1 (Int.ofNat n)), getL, takeL, dropL, TK.isAgg, reduceIte]
  refine ⟨fun h => absurd h (by omega), fun _ => ⟨fun h => absurd h (by omega), fun _ => ?_⟩⟩
  (refine Later.mk ?_; cbv; try simp only [wp, (show ∀ n : Nat, _ = n from fun n => wf.2.2.2.2.2.2.2.2.2.2.2.2.2.1 (Int.ofNat n)), (show _ = (0 : Nat) from wf.2.2.2.2.2.2.2.2.2.2.2.2.2.1 0), getL, takeL, dropL, TK.isAgg, reduceIte])
  exact hR _ _ _ (.tup2 (.aggD [.str _, .int .i64 _, .int .i64 _]) (.d _)) rfl
theorem of_3 : VFun (P ()) 100 [.d (.int .i64 3)] (fun r => r = .tup [.agg [.d (.str ⟨⟨[116, 121, 112, 101]⟩⟩), .d (.int .i64 (2)), .d (.int .i64 (0))], .d (.bool true)]) := by
  refine vfunO (Tf := fun {_} _ => fzT [] (T ())) (fun {_} => tabOk.frz []) [] 400 Tryz.func100 rfl (fun {_} => by kernel_rfl) rfl (Nat.le_of_ble_eq_true rfl) @fun ⟨_, _, _, _, _, _, _, _, _, _, _, _, _, _, _, _, _, _, _, _, _, _, _, _, _, _, _, _, _, _, _, _, _, _, _, _, _, _, wp, wf⟩ R hR => ?_
  cbv
  try simp only [wp, (show ∀ n : Nat, _ = n from fun n => wf.2.2.2.2.2.2.2.2.2.2.2.2.2.1 (Int.ofNat n)), getL, takeL, dropL, TK.isAgg, reduceIte]
  refine ⟨fun h => absurd h (by omega), fun _ => ⟨fun h => absurd h (by omega), fun _ => ?_⟩⟩
  (refine Later.mk ?_; cbv; try simp only [wp, (show ∀ n : Nat, _ = n from fun n => wf.2.2.2.2.2.2.2.2.2.2.2.2.2.1 (Int.ofNat n)), (show _ = (0 : Nat) from wf.2.2.2.2.2.2.2.2.2.2.2.2.2.1 0), getL, takeL, dropL, TK.isAgg, reduceIte])
  exact hR _ _ _ (.tup2 (.aggD [.str _, .int .i64 _, .int .i64 _]) (.d _)) rfl
theorem of_4 : VFun (P ()) 100 [.d (.int .i64 4)] (fun r => r = .tup [.agg [.d (.str ⟨⟨[112, 114, 111, 112]⟩⟩), .d (.int .i64 (0)), .d (.int .i64 (0))], .d (.bool true)]) := by
  refine vfunO (Tf := fun {_} _ => fzT [] (T ())) (fun {_} => tabOk.frz []) [] 400 Tryz.func100 rfl (fun {_} => by kernel_rfl) rfl (Nat.le_of_ble_eq_true rfl) @fun ⟨_, _, _, _, _, _, _, _, _, _, _, _, _, _, _, _, _, _, _, _, _, _, _, _, _, _, _, _, _, _, _, _, _, _, _, _, _, _, wp, wf⟩ R hR => ?_
  cbv
  try simp only [wp, (show ∀ n : Nat, _ = n from fun n => wf.2.2.2.2.2.2.2.2.2.2.2.2.2.1 (Int.ofNat n)), getL, takeL, dropL, TK.isAgg, reduceIte]
  refine ⟨fun h => absurd h (by omega), fun _ => ⟨fun h => absurd h (by omega), fun _ => ?_⟩⟩
  (refine Later.mk ?_; cbv; try simp only [wp, (show ∀ n : Nat, _ = n from fun n => wf.2.2.2.2.2.2.2.2.2.2.2.2.2.1 (Int.ofNat n)), (show _ = (0 : Nat) from wf.2.2.2.2.2.2.2.2.2.2.2.2.2.1 0), getL, takeL, dropL, TK.isAgg, reduceIte])
  exact hR _ _ _ (.tup2 (.aggD [.str _, .int .i64 _, .int .i64 _]) (.d _)) rfl
theorem of_5 : VFun (P ()) 100 [.d (.int .i64 5)] (fun r => r = .tup [.agg [.d (.str ⟨⟨[112, 105]⟩⟩), .d (.int .i64 (64)), .d (.int .i64 (2))], .d (.bool true)]) := by
  refine vfunO (Tf := fun {_} _ => fzT [] (T ())) (fun {_} => tabOk.frz []) [] 400 Tryz.func100 rfl (fun {_} => by kernel_rfl) rfl (Nat.le_of_ble_eq_true rfl) @fun ⟨_, _, _, _, _, _, _, _, _, _, _, _, _, _, _, _, _, _, _, _, _, _, _, _, _, _, _, _, _, _, _, _, _, _, _, _, _, _, wp, wf⟩ R hR => ?_
  cbv
  try simp only [wp, (show ∀ n : Nat, _ = n from fun n => wf.2.2.2.2.2.2.2.2.2.2.2.2.2.1 (Int.ofNat n)), getL, takeL, dropL, TK.isAgg, reduceIte]
  refine ⟨fun h => absurd h (by omega), fun _ => ⟨fun h => absurd h (by omega), fun _ => ?_⟩⟩
  (refine Later.mk ?_; cbv; try simp only [wp, (show ∀ n : Nat, _ = n from fun n => wf.2.2.2.2.2.2.2.2.2.2.2.2.2.1 (Int.ofNat n)), (show _ = (0 : Nat) from wf.2.2.2.2.2.2.2.2.2.2.2.2.2.1 0), getL, takeL, dropL, TK.isAgg, reduceIte])
  exact hR _ _ _ (.tup2 (.aggD [.str _, .int .i64 _, .int .i64 _]) (.d _)) rfl
theorem of_6 : VFun (P ()) 100 [.d (.int .i64 6)] (fun r => r = .tup [.agg [.d (.str ⟨⟨[108, 97, 109]⟩⟩), .d (.int .i64 (32)), .d (.int .i64 (2))], .d (.bool true)]) := by
  refine vfunO (Tf := fun {_} _ => fzT [] (T ())) (fun {_} => tabOk.frz []) [] 400 Tryz.func100 rfl (fun {_} => by kernel_rfl) rfl (Nat.le_of_ble_eq_true rfl) @fun ⟨_, _, _, _, _, _, _, _, _, _, _, _, _, _, _, _, _, _, _, _, _, _, _, _, _, _, _, _, _, _, _, _, _, _, _, _, _, _, wp, wf⟩ R hR => ?_
  cbv
  try simp only [wp, (show ∀ n : Nat, _ = n from fun n => wf.2.2.2.2.2.2.2.2.2.2.2.2.2.1 (Int.ofNat n)), getL, takeL, dropL, TK.isAgg, reduceIte]
  refine ⟨fun h => absurd h (by omega), fun _ => ⟨fun h => absurd h (by omega), fun _ => ?_⟩⟩
  (refine Later.mk ?_; cbv; try simp only [wp, (show ∀ n : Nat, _ = n from fun n => wf.2.2.2.2.2.2.2.2.2.2.2.2.2.1 (Int.ofNat n)), (show _ = (0 : Nat) from wf.2.2.2.2.2.2.2.2.2.2.2.2.2.1 0), getL, takeL, dropL, TK.isAgg, reduceIte])
  exact hR _ _ _ (.tup2 (.aggD [.str _, .int .i64 _, .int .i64 _]) (.d _)) rfl
theorem of_7 : VFun (P ()) 100 [.d (.int .i64 7)] (fun r => r = .tup [.agg [.d (.str ⟨⟨[97, 112, 112]⟩⟩), .d (.int .i64 (32)), .d (.int .i64 (2))], .d (.bool true)]) := by
  refine vfunO (Tf := fun {_} _ => fzT [] (T ())) (fun {_} => tabOk.frz []) [] 400 Tryz.func100 rfl (fun {_} => by kernel_rfl) rfl (Nat.le_of_ble_eq_true rfl) @fun ⟨_, _, _, _, _, _, _, _, _, _, _, _, _, _, _, _, _, _, _, _, _, _, _, _, _, _, _, _, _, _, _, _, _, _, _, _, _, _, wp, wf⟩ R hR => ?_
  cbv
  try simp only [wp, (show ∀ n : Nat, _ = n from fun n => wf.2.2.2.2.2.2.2.2.2.2.2.2.2.1 (Int.ofNat n)), getL, takeL, dropL, TK.isAgg, reduceIte]
  refine ⟨fun h => absurd h (by omega), fun _ => ⟨fun h => absurd h (by omega), fun _ => ?_⟩⟩
  (refine Later.mk ?_; cbv; try simp only [wp, (show ∀ n : Nat, _ = n from fun n => wf.2.2.2.2.2.2.2.2.2.2.2.2.2.1 (Int.ofNat n)), (show _ = (0 : Nat) from wf.2.2.2.2.2.2.2.2.2.2.2.2.2.1 0), getL, takeL, dropL, TK.isAgg, reduceIte])
  exact hR _ _ _ (.tup2 (.aggD [.str _, .int .i64 _, .int .i64 _]) (.d _)) rfl
theorem of_8 : VFun (P ()) 100 [.d (.int .i64 8)] (fun r => r = .tup [.agg [.d (.str ⟨⟨[115, 105, 103]⟩⟩), .d (.int .i64 (64)), .d (.int .i64 (2))], .d (.bool true)]) := by
  refine vfunO (Tf := fun {_} _ => fzT [] (T ())) (fun {_} => tabOk.frz []) [] 400 Tryz.func100 rfl (fun {_} => by kernel_rfl) rfl (Nat.le_of_ble_eq_true rfl) @fun ⟨_, _, _, _, _, _, _, _, _, _, _, _, _, _, _, _, _, _, _, _, _, _, _, _, _, _, _, _, _, _, _, _, _, _, _, _, _, _, wp, wf⟩ R hR => ?_
  cbv
  try simp only [wp, (show ∀ n : Nat, _ = n from fun n => wf.2.2.2.2.2.2.2.2.2.2.2.2.2.1 (Int.ofNat n)), getL, takeL, dropL, TK.isAgg, reduceIte]
  refine ⟨fun h => absurd h (by omega), fun _ => ⟨fun h => absurd h (by omega), fun _ => ?_⟩⟩
  (refine Later.mk ?_; cbv; try simp only [wp, (show ∀ n : Nat, _ = n from fun n => wf.2.2.2.2.2.2.2.2.2.2.2.2.2.1 (Int.ofNat n)), (show _ = (0 : Nat) from wf.2.2.2.2.2.2.2.2.2.2.2.2.2.1 0), getL, takeL, dropL, TK.isAgg, reduceIte])
  exact hR _ _ _ (.tup2 (.aggD [.str _, .int .i64 _, .int .i64 _]) (.d _)) rfl
theorem of_9 : VFun (P ()) 100 [.d (.int .i64 9)] (fun r => r = .tup [.agg [.d (.str ⟨⟨[112, 97, 105, 114]⟩⟩), .d (.int .i64 (64)), .d (.int .i64 (4))], .d (.bool true)]) := by
  refine vfunO (Tf := fun {_} _ => fzT [] (T ())) (fun {_} => tabOk.frz []) [] 400 Tryz.func100 rfl (fun {_} => by kernel_rfl) rfl (Nat.le_of_ble_eq_true rfl) @fun ⟨_, _, _, _, _, _, _, _, _, _, _, _, _, _, _, _, _, _, _, _, _, _, _, _, _, _, _, _, _, _, _, _, _, _, _, _, _, _, wp, wf⟩ R hR => ?_
  cbv
  try simp only [wp, (show ∀ n : Nat, _ = n from fun n => wf.2.2.2.2.2.2.2.2.2.2.2.2.2.1 (Int.ofNat n)), getL, takeL, dropL, TK.isAgg, reduceIte]
  refine ⟨fun h => absurd h (by omega), fun _ => ⟨fun h => absurd h (by omega), fun _ => ?_⟩⟩
  (refine Later.mk ?_; cbv; try simp only [wp, (show ∀ n : Nat, _ = n from fun n => wf.2.2.2.2.2.2.2.2.2.2.2.2.2.1 (Int.ofNat n)), (show _ = (0 : Nat) from wf.2.2.2.2.2.2.2.2.2.2.2.2.2.1 0), getL, takeL, dropL, TK.isAgg, reduceIte])
  exact hR _ _ _ (.tup2 (.aggD [.str _, .int .i64 _, .int .i64 _]) (.d _)) rfl
theorem of_10 : VFun (P ()) 100 [.d (.int .i64 10)] (fun r => r = .tup [.agg [.d (.str ⟨⟨[102, 115, 116]⟩⟩), .d (.int .i64 (0)), .d (.int .i64 (1))], .d (.bool true)]) := by
  refine vfunO (Tf := fun {_} _ => fzT [] (T ())) (fun {_} => tabOk.frz []) [] 400 Tryz.func100 rfl (fun {_} => by kernel_rfl) rfl (Nat.le_of_ble_eq_true rfl) @fun ⟨_, _, _, _, _, _, _, _, _, _, _, _, _, _, _, _, _, _, _, _, _, _, _, _, _, _, _, _, _, _, _, _, _, _, _, _, _, _, wp, wf⟩ R hR => ?_
  cbv
  try simp only [wp, (show ∀ n : Nat, _ = n from fun n => wf.2.2.2.2.2.2.2.2.2.2.2.2.2.1 (Int.ofNat n)), getL, takeL, dropL, TK.isAgg, reduceIte]
  refine ⟨fun h => absurd h (by omega), fun _ => ⟨fun h => absurd h (by omega), fun _ => ?_⟩⟩
  (refine Later.mk ?_; cbv; try simp only [wp, (show ∀ n : Nat, _ = n from fun n => wf.2.2.2.2.2.2.2.2.2.2.2.2.2.1 (Int.ofNat n)), (show _ = (0 : Nat) from wf.2.2.2.2.2.2.2.2.2.2.2.2.2.1 0), getL, takeL, dropL, TK.isAgg, reduceIte])
  exact hR _ _ _ (.tup2 (.aggD [.str _, .int .i64 _, .int .i64 _]) (.d _)) rfl
theorem of_11 : VFun (P ()) 100 [.d (.int .i64 11)] (fun r => r = .tup [.agg [.d (.str ⟨⟨[115, 110, 100]⟩⟩), .d (.int .i64 (0)), .d (.int .i64 (1))], .d (.bool true)]) := by
  refine vfunO (Tf := fun {_} _ => fzT [] (T ())) (fun {_} => tabOk.frz []) [] 400 Tryz.func100 rfl (fun {_} => by kernel_rfl) rfl (Nat.le_of_ble_eq_true rfl) @fun ⟨_, _, _, _, _, _, _, _, _, _, _, _, _, _, _, _, _, _, _, _, _, _, _, _, _, _, _, _, _, _, _, _, _, _, _, _, _, _, wp, wf⟩ R hR => ?_
  cbv
  try simp only [wp, (show ∀ n : Nat, _ = n from fun n => wf.2.2.2.2.2.2.2.2.2.2.2.2.2.1 (Int.ofNat n)), getL, takeL, dropL, TK.isAgg, reduceIte]
  refine ⟨fun h => absurd h (by omega), fun _ => ⟨fun h => absurd h (by omega), fun _ => ?_⟩⟩
  (refine Later.mk ?_; cbv; try simp only [wp, (show ∀ n : Nat, _ = n from fun n => wf.2.2.2.2.2.2.2.2.2.2.2.2.2.1 (Int.ofNat n)), (show _ = (0 : Nat) from wf.2.2.2.2.2.2.2.2.2.2.2.2.2.1 0), getL, takeL, dropL, TK.isAgg, reduceIte])
  exact hR _ _ _ (.tup2 (.aggD [.str _, .int .i64 _, .int .i64 _]) (.d _)) rfl
theorem of_12 : VFun (P ()) 100 [.d (.int .i64 12)] (fun r => r = .tup [.agg [.d (.str ⟨⟨[117, 110, 105, 116]⟩⟩), .d (.int .i64 (0)), .d (.int .i64 (0))], .d (.bool true)]) := by
  refine vfunO (Tf := fun {_} _ => fzT [] (T ())) (fun {_} => tabOk.frz []) [] 400 Tryz.func100 rfl (fun {_} => by kernel_rfl) rfl (Nat.le_of_ble_eq_true rfl) @fun ⟨_, _, _, _, _, _, _, _, _, _, _, _, _, _, _, _, _, _, _, _, _, _, _, _, _, _, _, _, _, _, _, _, _, _, _, _, _, _, wp, wf⟩ R hR => ?_
  cbv
  try simp only [wp, (show ∀ n : Nat, _ = n from fun n => wf.2.2.2.2.2.2.2.2.2.2.2.2.2.1 (Int.ofNat n)), getL, takeL, dropL, TK.isAgg, reduceIte]
  refine ⟨fun h => absurd h (by omega), fun _ => ⟨fun h => absurd h (by omega), fun _ => ?_⟩⟩
  (refine Later.mk ?_; cbv; try simp only [wp, (show ∀ n : Nat, _ = n from fun n => wf.2.2.2.2.2.2.2.2.2.2.2.2.2.1 (Int.ofNat n)), (show _ = (0 : Nat) from wf.2.2.2.2.2.2.2.2.2.2.2.2.2.1 0), getL, takeL, dropL, TK.isAgg, reduceIte])
  exact hR _ _ _ (.tup2 (.aggD [.str _, .int .i64 _, .int .i64 _]) (.d _)) rfl
theorem of_13 : VFun (P ()) 100 [.d (.int .i64 13)] (fun r => r = .tup [.agg [.d (.str ⟨⟨[115, 116, 97, 114]⟩⟩), .d (.int .i64 (0)), .d (.int .i64 (0))], .d (.bool true)]) := by
  refine vfunO (Tf := fun {_} _ => fzT [] (T ())) (fun {_} => tabOk.frz []) [] 400 Tryz.func100 rfl (fun {_} => by kernel_rfl) rfl (Nat.le_of_ble_eq_true rfl) @fun ⟨_, _, _, _, _, _, _, _, _, _, _, _, _, _, _, _, _, _, _, _, _, _, _, _, _, _, _, _, _, _, _, _, _, _, _, _, _, _, wp, wf⟩ R hR => ?_
  cbv
  try simp only [wp, (show ∀ n : Nat, _ = n from fun n => wf.2.2.2.2.2.2.2.2.2.2.2.2.2.1 (Int.ofNat n)), getL, takeL, dropL, TK.isAgg, reduceIte]
  refine ⟨fun h => absurd h (by omega), fun _ => ⟨fun h => absurd h (by omega), fun _ => ?_⟩⟩
  (refine Later.mk ?_; cbv; try simp only [wp, (show ∀ n : Nat, _ = n from fun n => wf.2.2.2.2.2.2.2.2.2.2.2.2.2.1 (Int.ofNat n)), (show _ = (0 : Nat) from wf.2.2.2.2.2.2.2.2.2.2.2.2.2.1 0), getL, takeL, dropL, TK.isAgg, reduceIte])
  exact hR _ _ _ (.tup2 (.aggD [.str _, .int .i64 _, .int .i64 _]) (.d _)) rfl
theorem of_14 : VFun (P ()) 100 [.d (.int .i64 14)] (fun r => r = .tup [.agg [.d (.str ⟨⟨[116, 114, 117, 101]⟩⟩), .d (.int .i64 (0)), .d (.int .i64 (0))], .d (.bool true)]) := by
  refine vfunO (Tf := fun {_} _ => fzT [] (T ())) (fun {_} => tabOk.frz []) [] 400 Tryz.func100 rfl (fun {_} => by kernel_rfl) rfl (Nat.le_of_ble_eq_true rfl) @fun ⟨_, _, _, _, _, _, _, _, _, _, _, _, _, _, _, _, _, _, _, _, _, _, _, _, _, _, _, _, _, _, _, _, _, _, _, _, _, _, wp, wf⟩ R hR => ?_
  cbv
  try simp only [wp, (show ∀ n : Nat, _ = n from fun n => wf.2.2.2.2.2.2.2.2.2.2.2.2.2.1 (Int.ofNat n)), getL, takeL, dropL, TK.isAgg, reduceIte]
  refine ⟨fun h => absurd h (by omega), fun _ => ⟨fun h => absurd h (by omega), fun _ => ?_⟩⟩
  (refine Later.mk ?_; cbv; try simp only [wp, (show ∀ n : Nat, _ = n from fun n => wf.2.2.2.2.2.2.2.2.2.2.2.2.2.1 (Int.ofNat n)), (show _ = (0 : Nat) from wf.2.2.2.2.2.2.2.2.2.2.2.2.2.1 0), getL, takeL, dropL, TK.isAgg, reduceIte])
  exact hR _ _ _ (.tup2 (.aggD [.str _, .int .i64 _, .int .i64 _]) (.d _)) rfl
theorem of_15 : VFun (P ()) 100 [.d (.int .i64 15)] (fun r => r = .tup [.agg [.d (.str ⟨⟨[116, 114, 105, 118, 105, 97, 108]⟩⟩), .d (.int .i64 (0)), .d (.int .i64 (0))], .d (.bool true)]) := by
  refine vfunO (Tf := fun {_} _ => fzT [] (T ())) (fun {_} => tabOk.frz []) [] 400 Tryz.func100 rfl (fun {_} => by kernel_rfl) rfl (Nat.le_of_ble_eq_true rfl) @fun ⟨_, _, _, _, _, _, _, _, _, _, _, _, _, _, _, _, _, _, _, _, _, _, _, _, _, _, _, _, _, _, _, _, _, _, _, _, _, _, wp, wf⟩ R hR => ?_
  cbv
  try simp only [wp, (show ∀ n : Nat, _ = n from fun n => wf.2.2.2.2.2.2.2.2.2.2.2.2.2.1 (Int.ofNat n)), getL, takeL, dropL, TK.isAgg, reduceIte]
  refine ⟨fun h => absurd h (by omega), fun _ => ⟨fun h => absurd h (by omega), fun _ => ?_⟩⟩
  (refine Later.mk ?_; cbv; try simp only [wp, (show ∀ n : Nat, _ = n from fun n => wf.2.2.2.2.2.2.2.2.2.2.2.2.2.1 (Int.ofNat n)), (show _ = (0 : Nat) from wf.2.2.2.2.2.2.2.2.2.2.2.2.2.1 0), getL, takeL, dropL, TK.isAgg, reduceIte])
  exact hR _ _ _ (.tup2 (.aggD [.str _, .int .i64 _, .int .i64 _]) (.d _)) rfl
theorem of_16 : VFun (P ()) 100 [.d (.int .i64 16)] (fun r => r = .tup [.agg [.d (.str ⟨⟨[102, 97, 108, 115, 101]⟩⟩), .d (.int .i64 (0)), .d (.int .i64 (0))], .d (.bool true)]) := by
  refine vfunO (Tf := fun {_} _ => fzT [] (T ())) (fun {_} => tabOk.frz []) [] 400 Tryz.func100 rfl (fun {_} => by kernel_rfl) rfl (Nat.le_of_ble_eq_true rfl) @fun ⟨_, _, _, _, _, _, _, _, _, _, _, _, _, _, _, _, _, _, _, _, _, _, _, _, _, _, _, _, _, _, _, _, _, _, _, _, _, _, wp, wf⟩ R hR => ?_
  cbv
  try simp only [wp, (show ∀ n : Nat, _ = n from fun n => wf.2.2.2.2.2.2.2.2.2.2.2.2.2.1 (Int.ofNat n)), getL, takeL, dropL, TK.isAgg, reduceIte]
  refine ⟨fun h => absurd h (by omega), fun _ => ⟨fun h => absurd h (by omega), fun _ => ?_⟩⟩
  (refine Later.mk ?_; cbv; try simp only [wp, (show ∀ n : Nat, _ = n from fun n => wf.2.2.2.2.2.2.2.2.2.2.2.2.2.1 (Int.ofNat n)), (show _ = (0 : Nat) from wf.2.2.2.2.2.2.2.2.2.2.2.2.2.1 0), getL, takeL, dropL, TK.isAgg, reduceIte])
  exact hR _ _ _ (.tup2 (.aggD [.str _, .int .i64 _, .int .i64 _]) (.d _)) rfl
theorem of_17 : VFun (P ()) 100 [.d (.int .i64 17)] (fun r => r = .tup [.agg [.d (.str ⟨⟨[97, 98, 115, 117, 114, 100]⟩⟩), .d (.int .i64 (32)), .d (.int .i64 (2))], .d (.bool true)]) := by
  refine vfunO (Tf := fun {_} _ => fzT [] (T ())) (fun {_} => tabOk.frz []) [] 400 Tryz.func100 rfl (fun {_} => by kernel_rfl) rfl (Nat.le_of_ble_eq_true rfl) @fun ⟨_, _, _, _, _, _, _, _, _, _, _, _, _, _, _, _, _, _, _, _, _, _, _, _, _, _, _, _, _, _, _, _, _, _, _, _, _, _, wp, wf⟩ R hR => ?_
  cbv
  try simp only [wp, (show ∀ n : Nat, _ = n from fun n => wf.2.2.2.2.2.2.2.2.2.2.2.2.2.1 (Int.ofNat n)), getL, takeL, dropL, TK.isAgg, reduceIte]
  refine ⟨fun h => absurd h (by omega), fun _ => ⟨fun h => absurd h (by omega), fun _ => ?_⟩⟩
  (refine Later.mk ?_; cbv; try simp only [wp, (show ∀ n : Nat, _ = n from fun n => wf.2.2.2.2.2.2.2.2.2.2.2.2.2.1 (Int.ofNat n)), (show _ = (0 : Nat) from wf.2.2.2.2.2.2.2.2.2.2.2.2.2.1 0), getL, takeL, dropL, TK.isAgg, reduceIte])
  exact hR _ _ _ (.tup2 (.aggD [.str _, .int .i64 _, .int .i64 _]) (.d _)) rfl
theorem of_18 : VFun (P ()) 100 [.d (.int .i64 18)] (fun r => r = .tup [.agg [.d (.str ⟨⟨[101, 113]⟩⟩), .d (.int .i64 (2)), .d (.int .i64 (3))], .d (.bool true)]) := by
  refine vfunO (Tf := fun {_} _ => fzT [] (T ())) (fun {_} => tabOk.frz []) [] 400 Tryz.func100 rfl (fun {_} => by kernel_rfl) rfl (Nat.le_of_ble_eq_true rfl) @fun ⟨_, _, _, _, _, _, _, _, _, _, _, _, _, _, _, _, _, _, _, _, _, _, _, _, _, _, _, _, _, _, _, _, _, _, _, _, _, _, wp, wf⟩ R hR => ?_
  cbv
  try simp only [wp, (show ∀ n : Nat, _ = n from fun n => wf.2.2.2.2.2.2.2.2.2.2.2.2.2.1 (Int.ofNat n)), getL, takeL, dropL, TK.isAgg, reduceIte]
  refine ⟨fun h => absurd h (by omega), fun _ => ⟨fun h => absurd h (by omega), fun _ => ?_⟩⟩
  (refine Later.mk ?_; cbv; try simp only [wp, (show ∀ n : Nat, _ = n from fun n => wf.2.2.2.2.2.2.2.2.2.2.2.2.2.1 (Int.ofNat n)), (show _ = (0 : Nat) from wf.2.2.2.2.2.2.2.2.2.2.2.2.2.1 0), getL, takeL, dropL, TK.isAgg, reduceIte])
  exact hR _ _ _ (.tup2 (.aggD [.str _, .int .i64 _, .int .i64 _]) (.d _)) rfl
theorem of_19 : VFun (P ()) 100 [.d (.int .i64 19)] (fun r => r = .tup [.agg [.d (.str ⟨⟨[114, 101, 102, 108]⟩⟩), .d (.int .i64 (2)), .d (.int .i64 (2))], .d (.bool true)]) := by
  refine vfunO (Tf := fun {_} _ => fzT [] (T ())) (fun {_} => tabOk.frz []) [] 400 Tryz.func100 rfl (fun {_} => by kernel_rfl) rfl (Nat.le_of_ble_eq_true rfl) @fun ⟨_, _, _, _, _, _, _, _, _, _, _, _, _, _, _, _, _, _, _, _, _, _, _, _, _, _, _, _, _, _, _, _, _, _, _, _, _, _, wp, wf⟩ R hR => ?_
  cbv
  try simp only [wp, (show ∀ n : Nat, _ = n from fun n => wf.2.2.2.2.2.2.2.2.2.2.2.2.2.1 (Int.ofNat n)), getL, takeL, dropL, TK.isAgg, reduceIte]
  refine ⟨fun h => absurd h (by omega), fun _ => ⟨fun h => absurd h (by omega), fun _ => ?_⟩⟩
  (refine Later.mk ?_; cbv; try simp only [wp, (show ∀ n : Nat, _ = n from fun n => wf.2.2.2.2.2.2.2.2.2.2.2.2.2.1 (Int.ofNat n)), (show _ = (0 : Nat) from wf.2.2.2.2.2.2.2.2.2.2.2.2.2.1 0), getL, takeL, dropL, TK.isAgg, reduceIte])
  exact hR _ _ _ (.tup2 (.aggD [.str _, .int .i64 _, .int .i64 _]) (.d _)) rfl
theorem of_20 : VFun (P ()) 100 [.d (.int .i64 20)] (fun r => r = .tup [.agg [.d (.str ⟨⟨[115, 117, 98, 115, 116]⟩⟩), .d (.int .i64 (2)), .d (.int .i64 (6))], .d (.bool true)]) := by
  refine vfunO (Tf := fun {_} _ => fzT [] (T ())) (fun {_} => tabOk.frz []) [] 400 Tryz.func100 rfl (fun {_} => by kernel_rfl) rfl (Nat.le_of_ble_eq_true rfl) @fun ⟨_, _, _, _, _, _, _, _, _, _, _, _, _, _, _, _, _, _, _, _, _, _, _, _, _, _, _, _, _, _, _, _, _, _, _, _, _, _, wp, wf⟩ R hR => ?_
  cbv
  try simp only [wp, (show ∀ n : Nat, _ = n from fun n => wf.2.2.2.2.2.2.2.2.2.2.2.2.2.1 (Int.ofNat n)), getL, takeL, dropL, TK.isAgg, reduceIte]
  refine ⟨fun h => absurd h (by omega), fun _ => ⟨fun h => absurd h (by omega), fun _ => ?_⟩⟩
  (refine Later.mk ?_; cbv; try simp only [wp, (show ∀ n : Nat, _ = n from fun n => wf.2.2.2.2.2.2.2.2.2.2.2.2.2.1 (Int.ofNat n)), (show _ = (0 : Nat) from wf.2.2.2.2.2.2.2.2.2.2.2.2.2.1 0), getL, takeL, dropL, TK.isAgg, reduceIte])
  exact hR _ _ _ (.tup2 (.aggD [.str _, .int .i64 _, .int .i64 _]) (.d _)) rfl
theorem of_21 : VFun (P ()) 100 [.d (.int .i64 21)] (fun r => r = .tup [.agg [.d (.str ⟨⟨[99, 97, 115, 116]⟩⟩), .d (.int .i64 (2)), .d (.int .i64 (4))], .d (.bool true)]) := by
  refine vfunO (Tf := fun {_} _ => fzT [] (T ())) (fun {_} => tabOk.frz []) [] 400 Tryz.func100 rfl (fun {_} => by kernel_rfl) rfl (Nat.le_of_ble_eq_true rfl) @fun ⟨_, _, _, _, _, _, _, _, _, _, _, _, _, _, _, _, _, _, _, _, _, _, _, _, _, _, _, _, _, _, _, _, _, _, _, _, _, _, wp, wf⟩ R hR => ?_
  cbv
  try simp only [wp, (show ∀ n : Nat, _ = n from fun n => wf.2.2.2.2.2.2.2.2.2.2.2.2.2.1 (Int.ofNat n)), getL, takeL, dropL, TK.isAgg, reduceIte]
  refine ⟨fun h => absurd h (by omega), fun _ => ⟨fun h => absurd h (by omega), fun _ => ?_⟩⟩
  (refine Later.mk ?_; cbv; try simp only [wp, (show ∀ n : Nat, _ = n from fun n => wf.2.2.2.2.2.2.2.2.2.2.2.2.2.1 (Int.ofNat n)), (show _ = (0 : Nat) from wf.2.2.2.2.2.2.2.2.2.2.2.2.2.1 0), getL, takeL, dropL, TK.isAgg, reduceIte])
  exact hR _ _ _ (.tup2 (.aggD [.str _, .int .i64 _, .int .i64 _]) (.d _)) rfl
theorem of_22 : VFun (P ()) 100 [.d (.int .i64 22)] (fun r => r = .tup [.agg [.d (.str ⟨⟨[99, 111, 104]⟩⟩), .d (.int .i64 (2)), .d (.int .i64 (3))], .d (.bool true)]) := by
  refine vfunO (Tf := fun {_} _ => fzT [] (T ())) (fun {_} => tabOk.frz []) [] 400 Tryz.func100 rfl (fun {_} => by kernel_rfl) rfl (Nat.le_of_ble_eq_true rfl) @fun ⟨_, _, _, _, _, _, _, _, _, _, _, _, _, _, _, _, _, _, _, _, _, _, _, _, _, _, _, _, _, _, _, _, _, _, _, _, _, _, wp, wf⟩ R hR => ?_
  cbv
  try simp only [wp, (show ∀ n : Nat, _ = n from fun n => wf.2.2.2.2.2.2.2.2.2.2.2.2.2.1 (Int.ofNat n)), getL, takeL, dropL, TK.isAgg, reduceIte]
  refine ⟨fun h => absurd h (by omega), fun _ => ⟨fun h => absurd h (by omega), fun _ => ?_⟩⟩
  (refine Later.mk ?_; cbv; try simp only [wp, (show ∀ n : Nat, _ = n from fun n => wf.2.2.2.2.2.2.2.2.2.2.2.2.2.1 (Int.ofNat n)), (show _ = (0 : Nat) from wf.2.2.2.2.2.2.2.2.2.2.2.2.2.1 0), getL, takeL, dropL, TK.isAgg, reduceIte])
  exact hR _ _ _ (.tup2 (.aggD [.str _, .int .i64 _, .int .i64 _]) (.d _)) rfl
theorem of_23 : VFun (P ()) 100 [.d (.int .i64 23)] (fun r => r = .tup [.agg [.d (.str ⟨⟨[113, 117, 111]⟩⟩), .d (.int .i64 (2)), .d (.int .i64 (5))], .d (.bool true)]) := by
  refine vfunO (Tf := fun {_} _ => fzT [] (T ())) (fun {_} => tabOk.frz []) [] 400 Tryz.func100 rfl (fun {_} => by kernel_rfl) rfl (Nat.le_of_ble_eq_true rfl) @fun ⟨_, _, _, _, _, _, _, _, _, _, _, _, _, _, _, _, _, _, _, _, _, _, _, _, _, _, _, _, _, _, _, _, _, _, _, _, _, _, wp, wf⟩ R hR => ?_
  cbv
  try simp only [wp, (show ∀ n : Nat, _ = n from fun n => wf.2.2.2.2.2.2.2.2.2.2.2.2.2.1 (Int.ofNat n)), getL, takeL, dropL, TK.isAgg, reduceIte]
  refine ⟨fun h => absurd h (by omega), fun _ => ⟨fun h => absurd h (by omega), fun _ => ?_⟩⟩
  (refine Later.mk ?_; cbv; try simp only [wp, (show ∀ n : Nat, _ = n from fun n => wf.2.2.2.2.2.2.2.2.2.2.2.2.2.1 (Int.ofNat n)), (show _ = (0 : Nat) from wf.2.2.2.2.2.2.2.2.2.2.2.2.2.1 0), getL, takeL, dropL, TK.isAgg, reduceIte])
  exact hR _ _ _ (.tup2 (.aggD [.str _, .int .i64 _, .int .i64 _]) (.d _)) rfl
theorem of_24 : VFun (P ()) 100 [.d (.int .i64 24)] (fun r => r = .tup [.agg [.d (.str ⟨⟨[99, 108, 97, 115, 115]⟩⟩), .d (.int .i64 (0)), .d (.int .i64 (2))], .d (.bool true)]) := by
  refine vfunO (Tf := fun {_} _ => fzT [] (T ())) (fun {_} => tabOk.frz []) [] 400 Tryz.func100 rfl (fun {_} => by kernel_rfl) rfl (Nat.le_of_ble_eq_true rfl) @fun ⟨_, _, _, _, _, _, _, _, _, _, _, _, _, _, _, _, _, _, _, _, _, _, _, _, _, _, _, _, _, _, _, _, _, _, _, _, _, _, wp, wf⟩ R hR => ?_
  cbv
  try simp only [wp, (show ∀ n : Nat, _ = n from fun n => wf.2.2.2.2.2.2.2.2.2.2.2.2.2.1 (Int.ofNat n)), getL, takeL, dropL, TK.isAgg, reduceIte]
  refine ⟨fun h => absurd h (by omega), fun _ => ⟨fun h => absurd h (by omega), fun _ => ?_⟩⟩
  (refine Later.mk ?_; cbv; try simp only [wp, (show ∀ n : Nat, _ = n from fun n => wf.2.2.2.2.2.2.2.2.2.2.2.2.2.1 (Int.ofNat n)), (show _ = (0 : Nat) from wf.2.2.2.2.2.2.2.2.2.2.2.2.2.1 0), getL, takeL, dropL, TK.isAgg, reduceIte])
  exact hR _ _ _ (.tup2 (.aggD [.str _, .int .i64 _, .int .i64 _]) (.d _)) rfl
theorem of_25 : VFun (P ()) 100 [.d (.int .i64 25)] (fun r => r = .tup [.agg [.d (.str ⟨⟨[111, 117, 116]⟩⟩), .d (.int .i64 (34)), .d (.int .i64 (5))], .d (.bool true)]) := by
  refine vfunO (Tf := fun {_} _ => fzT [] (T ())) (fun {_} => tabOk.frz []) [] 400 Tryz.func100 rfl (fun {_} => by kernel_rfl) rfl (Nat.le_of_ble_eq_true rfl) @fun ⟨_, _, _, _, _, _, _, _, _, _, _, _, _, _, _, _, _, _, _, _, _, _, _, _, _, _, _, _, _, _, _, _, _, _, _, _, _, _, wp, wf⟩ R hR => ?_
  cbv
  try simp only [wp, (show ∀ n : Nat, _ = n from fun n => wf.2.2.2.2.2.2.2.2.2.2.2.2.2.1 (Int.ofNat n)), getL, takeL, dropL, TK.isAgg, reduceIte]
  refine ⟨fun h => absurd h (by omega), fun _ => ⟨fun h => absurd h (by omega), fun _ => ?_⟩⟩
  (refine Later.mk ?_; cbv; try simp only [wp, (show ∀ n : Nat, _ = n from fun n => wf.2.2.2.2.2.2.2.2.2.2.2.2.2.1 (Int.ofNat n)), (show _ = (0 : Nat) from wf.2.2.2.2.2.2.2.2.2.2.2.2.2.1 0), getL, takeL, dropL, TK.isAgg, reduceIte])
  exact hR _ _ _ (.tup2 (.aggD [.str _, .int .i64 _, .int .i64 _]) (.d _)) rfl
theorem of_26 : VFun (P ()) 100 [.d (.int .i64 26)] (fun r => r = .tup [.agg [.d (.str ⟨⟨[100, 97, 116, 97]⟩⟩), .d (.int .i64 (5)), .d (.int .i64 (1))], .d (.bool true)]) := by
  refine vfunO (Tf := fun {_} _ => fzT [] (T ())) (fun {_} => tabOk.frz []) [] 400 Tryz.func100 rfl (fun {_} => by kernel_rfl) rfl (Nat.le_of_ble_eq_true rfl) @fun ⟨_, _, _, _, _, _, _, _, _, _, _, _, _, _, _, _, _, _, _, _, _, _, _, _, _, _, _, _, _, _, _, _, _, _, _, _, _, _, wp, wf⟩ R hR => ?_
  cbv
  try simp only [wp, (show ∀ n : Nat, _ = n from fun n => wf.2.2.2.2.2.2.2.2.2.2.2.2.2.1 (Int.ofNat n)), getL, takeL, dropL, TK.isAgg, reduceIte]
  refine ⟨fun h => absurd h (by omega), fun _ => ⟨fun h => absurd h (by omega), fun _ => ?_⟩⟩
  (refine Later.mk ?_; cbv; try simp only [wp, (show ∀ n : Nat, _ = n from fun n => wf.2.2.2.2.2.2.2.2.2.2.2.2.2.1 (Int.ofNat n)), (show _ = (0 : Nat) from wf.2.2.2.2.2.2.2.2.2.2.2.2.2.1 0), getL, takeL, dropL, TK.isAgg, reduceIte])
  exact hR _ _ _ (.tup2 (.aggD [.str _, .int .i64 _, .int .i64 _]) (.d _)) rfl
theorem of_27 : VFun (P ()) 100 [.d (.int .i64 27)] (fun r => r = .tup [.agg [.d (.str ⟨⟨[99, 111, 110]⟩⟩), .d (.int .i64 (21)), .d (.int .i64 (2))], .d (.bool true)]) := by
  refine vfunO (Tf := fun {_} _ => fzT [] (T ())) (fun {_} => tabOk.frz []) [] 400 Tryz.func100 rfl (fun {_} => by kernel_rfl) rfl (Nat.le_of_ble_eq_true rfl) @fun ⟨_, _, _, _, _, _, _, _, _, _, _, _, _, _, _, _, _, _, _, _, _, _, _, _, _, _, _, _, _, _, _, _, _, _, _, _, _, _, wp, wf⟩ R hR => ?_
  cbv
  try simp only [wp, (show ∀ n : Nat, _ = n from fun n => wf.2.2.2.2.2.2.2.2.2.2.2.2.2.1 (Int.ofNat n)), getL, takeL, dropL, TK.isAgg, reduceIte]
  refine ⟨fun h => absurd h (by omega), fun _ => ⟨fun h => absurd h (by omega), fun _ => ?_⟩⟩
  (refine Later.mk ?_; cbv; try simp only [wp, (show ∀ n : Nat, _ = n from fun n => wf.2.2.2.2.2.2.2.2.2.2.2.2.2.1 (Int.ofNat n)), (show _ = (0 : Nat) from wf.2.2.2.2.2.2.2.2.2.2.2.2.2.1 0), getL, takeL, dropL, TK.isAgg, reduceIte])
  exact hR _ _ _ (.tup2 (.aggD [.str _, .int .i64 _, .int .i64 _]) (.d _)) rfl
theorem of_28 : VFun (P ()) 100 [.d (.int .i64 28)] (fun r => r = .tup [.agg [.d (.str ⟨⟨[101, 108, 105, 109]⟩⟩), .d (.int .i64 (37)), .d (.int .i64 (-1))], .d (.bool true)]) := by
  refine vfunO (Tf := fun {_} _ => fzT [] (T ())) (fun {_} => tabOk.frz []) [] 400 Tryz.func100 rfl (fun {_} => by kernel_rfl) rfl (Nat.le_of_ble_eq_true rfl) @fun ⟨_, _, _, _, _, _, _, _, _, _, _, _, _, _, _, _, _, _, _, _, _, _, _, _, _, _, _, _, _, _, _, _, _, _, _, _, _, _, wp, wf⟩ R hR => ?_
  cbv
  try simp only [wp, (show ∀ n : Nat, _ = n from fun n => wf.2.2.2.2.2.2.2.2.2.2.2.2.2.1 (Int.ofNat n)), getL, takeL, dropL, TK.isAgg, reduceIte]
  refine ⟨fun h => absurd h (by omega), fun _ => ⟨fun h => absurd h (by omega), fun _ => ?_⟩⟩
  (refine Later.mk ?_; cbv; try simp only [wp, (show ∀ n : Nat, _ = n from fun n => wf.2.2.2.2.2.2.2.2.2.2.2.2.2.1 (Int.ofNat n)), (show _ = (0 : Nat) from wf.2.2.2.2.2.2.2.2.2.2.2.2.2.1 0), getL, takeL, dropL, TK.isAgg, reduceIte])
  exact hR _ _ _ (.tup2 (.aggD [.str _, .int .i64 _, .int .i64 _]) (.d _)) rfl
theorem of_29 : VFun (P ()) 100 [.d (.int .i64 29)] (fun r => r = .tup [.agg [.d (.str ⟨⟨[63]⟩⟩), .d (.int .i64 (8)), .d (.int .i64 (0))], .d (.bool true)]) := by
  refine vfunO (Tf := fun {_} _ => fzT [] (T ())) (fun {_} => tabOk.frz []) [] 400 Tryz.func100 rfl (fun {_} => by kernel_rfl) rfl (Nat.le_of_ble_eq_true rfl) @fun ⟨_, _, _, _, _, _, _, _, _, _, _, _, _, _, _, _, _, _, _, _, _, _, _, _, _, _, _, _, _, _, _, _, _, _, _, _, _, _, wp, wf⟩ R hR => ?_
  cbv
  try simp only [wp, (show ∀ n : Nat, _ = n from fun n => wf.2.2.2.2.2.2.2.2.2.2.2.2.2.1 (Int.ofNat n)), getL, takeL, dropL, TK.isAgg, reduceIte]
  refine ⟨fun h => absurd h (by omega), fun _ => ⟨fun h => absurd h (by omega), fun _ => ?_⟩⟩
  (refine Later.mk ?_; cbv; try simp only [wp, (show ∀ n : Nat, _ = n from fun n => wf.2.2.2.2.2.2.2.2.2.2.2.2.2.1 (Int.ofNat n)), (show _ = (0 : Nat) from wf.2.2.2.2.2.2.2.2.2.2.2.2.2.1 0), getL, takeL, dropL, TK.isAgg, reduceIte])
  exact hR _ _ _ (.tup2 (.aggD [.str _, .int .i64 _, .int .i64 _]) (.d _)) rfl
theorem of_30 : VFun (P ()) 100 [.d (.int .i64 30)] (fun r => r = .tup [.agg [.d (.str ⟨⟨[112, 114, 111, 111, 102]⟩⟩), .d (.int .i64 (0)), .d (.int .i64 (0))], .d (.bool true)]) := by
  refine vfunO (Tf := fun {_} _ => fzT [] (T ())) (fun {_} => tabOk.frz []) [] 400 Tryz.func100 rfl (fun {_} => by kernel_rfl) rfl (Nat.le_of_ble_eq_true rfl) @fun ⟨_, _, _, _, _, _, _, _, _, _, _, _, _, _, _, _, _, _, _, _, _, _, _, _, _, _, _, _, _, _, _, _, _, _, _, _, _, _, wp, wf⟩ R hR => ?_
  cbv
  try simp only [wp, (show ∀ n : Nat, _ = n from fun n => wf.2.2.2.2.2.2.2.2.2.2.2.2.2.1 (Int.ofNat n)), getL, takeL, dropL, TK.isAgg, reduceIte]
  refine ⟨fun h => absurd h (by omega), fun _ => ⟨fun h => absurd h (by omega), fun _ => ?_⟩⟩
  (refine Later.mk ?_; cbv; try simp only [wp, (show ∀ n : Nat, _ = n from fun n => wf.2.2.2.2.2.2.2.2.2.2.2.2.2.1 (Int.ofNat n)), (show _ = (0 : Nat) from wf.2.2.2.2.2.2.2.2.2.2.2.2.2.1 0), getL, takeL, dropL, TK.isAgg, reduceIte])
  exact hR _ _ _ (.tup2 (.aggD [.str _, .int .i64 _, .int .i64 _]) (.d _)) rfl
theorem ofOut (op : Int) (h : ¬ (1 ≤ op ∧ op ≤ 30)) : VFun (P ()) 100 [.d (.int .i64 op)] (fun r => r = .tup [.agg [.d (.str ⟨⟨[]⟩⟩), .d (.int .i64 0), .d (.int .i64 0)], .d (.bool false)]) := by
  refine vfunO (Tf := fun {_} _ => fzT [] (T ())) (fun {_} => tabOk.frz []) [] 400 Tryz.func100 rfl (fun {_} => by kernel_rfl) rfl (Nat.le_of_ble_eq_true rfl) @fun ⟨_, _, _, _, _, _, _, _, _, _, _, _, _, _, _, _, _, _, _, _, _, _, _, _, _, _, _, _, _, _, _, _, _, _, _, _, _, _, wp, wf⟩ R hR => ?_
  cbv
  try simp only [wp, (show ∀ n : Nat, _ = n from fun n => wf.2.2.2.2.2.2.2.2.2.2.2.2.2.1 (Int.ofNat n)), getL, takeL, dropL, TK.isAgg, reduceIte]
  refine ⟨fun h1 => ?_, fun h1 => ⟨fun h2 => ?_, fun h2 => absurd (⟨h1, by omega⟩ : 1 ≤ op ∧ op ≤ 30) h⟩⟩
  all_goals
    (refine Later.mk ?_; cbv; try simp only [wp, (show ∀ n : Nat, _ = n from fun n => wf.2.2.2.2.2.2.2.2.2.2.2.2.2.1 (Int.ofNat n)), (show _ = (0 : Nat) from wf.2.2.2.2.2.2.2.2.2.2.2.2.2.1 0), getL, takeL, dropL, TK.isAgg, reduceIte])
    exact hR _ _ _ (.tup2 (.aggD [.str _, .int .i64 _, .int .i64 _]) (.d _)) rfl
/-- what term.of returns -/
def OfR (op : Int) (r : A) : Prop := ∃ w u p b, r = .tup [.agg [.d (.str w), .d (.int .i64 u), .d (.int .i64 p)], .d (.bool b)] ∧ (b = true ↔ 1 ≤ op ∧ op ≤ 30) ∧ (b = true → w = wordT op ∧ u = atL usesL op ∧ p = atL partsL op)
theorem ofNat : ∀ k : Nat, 1 ≤ k → k ≤ 30 → VFun (P ()) 100 [.d (.int .i64 k)] (OfR k)
  | 1, _, _ => of_1.mono fun r h => ⟨_, _, _, true, h, iffT ⟨by decide, by decide⟩, fun _ => ⟨rfl, rfl, rfl⟩⟩
  | 2, _, _ => of_2.mono fun r h => ⟨_, _, _, true, h, iffT ⟨by decide, by decide⟩, fun _ => ⟨rfl, rfl, rfl⟩⟩
  | 3, _, _ => of_3.mono fun r h => ⟨_, _, _, true, h, iffT ⟨by decide, by decide⟩, fun _ => ⟨rfl, rfl, rfl⟩⟩
  | 4, _, _ => of_4.mono fun r h => ⟨_, _, _, true, h, iffT ⟨by decide, by decide⟩, fun _ => ⟨rfl, rfl, rfl⟩⟩
  | 5, _, _ => of_5.mono fun r h => ⟨_, _, _, true, h, iffT ⟨by decide, by decide⟩, fun _ => ⟨rfl, rfl, rfl⟩⟩
  | 6, _, _ => of_6.mono fun r h => ⟨_, _, _, true, h, iffT ⟨by decide, by decide⟩, fun _ => ⟨rfl, rfl, rfl⟩⟩
  | 7, _, _ => of_7.mono fun r h => ⟨_, _, _, true, h, iffT ⟨by decide, by decide⟩, fun _ => ⟨rfl, rfl, rfl⟩⟩
  | 8, _, _ => of_8.mono fun r h => ⟨_, _, _, true, h, iffT ⟨by decide, by decide⟩, fun _ => ⟨rfl, rfl, rfl⟩⟩
  | 9, _, _ => of_9.mono fun r h => ⟨_, _, _, true, h, iffT ⟨by decide, by decide⟩, fun _ => ⟨rfl, rfl, rfl⟩⟩
  | 10, _, _ => of_10.mono fun r h => ⟨_, _, _, true, h, iffT ⟨by decide, by decide⟩, fun _ => ⟨rfl, rfl, rfl⟩⟩
  | 11, _, _ => of_11.mono fun r h => ⟨_, _, _, true, h, iffT ⟨by decide, by decide⟩, fun _ => ⟨rfl, rfl, rfl⟩⟩
  | 12, _, _ => of_12.mono fun r h => ⟨_, _, _, true, h, iffT ⟨by decide, by decide⟩, fun _ => ⟨rfl, rfl, rfl⟩⟩
  | 13, _, _ => of_13.mono fun r h => ⟨_, _, _, true, h, iffT ⟨by decide, by decide⟩, fun _ => ⟨rfl, rfl, rfl⟩⟩
  | 14, _, _ => of_14.mono fun r h => ⟨_, _, _, true, h, iffT ⟨by decide, by decide⟩, fun _ => ⟨rfl, rfl, rfl⟩⟩
  | 15, _, _ => of_15.mono fun r h => ⟨_, _, _, true, h, iffT ⟨by decide, by decide⟩, fun _ => ⟨rfl, rfl, rfl⟩⟩
  | 16, _, _ => of_16.mono fun r h => ⟨_, _, _, true, h, iffT ⟨by decide, by decide⟩, fun _ => ⟨rfl, rfl, rfl⟩⟩
  | 17, _, _ => of_17.mono fun r h => ⟨_, _, _, true, h, iffT ⟨by decide, by decide⟩, fun _ => ⟨rfl, rfl, rfl⟩⟩
  | 18, _, _ => of_18.mono fun r h => ⟨_, _, _, true, h, iffT ⟨by decide, by decide⟩, fun _ => ⟨rfl, rfl, rfl⟩⟩
  | 19, _, _ => of_19.mono fun r h => ⟨_, _, _, true, h, iffT ⟨by decide, by decide⟩, fun _ => ⟨rfl, rfl, rfl⟩⟩
  | 20, _, _ => of_20.mono fun r h => ⟨_, _, _, true, h, iffT ⟨by decide, by decide⟩, fun _ => ⟨rfl, rfl, rfl⟩⟩
  | 21, _, _ => of_21.mono fun r h => ⟨_, _, _, true, h, iffT ⟨by decide, by decide⟩, fun _ => ⟨rfl, rfl, rfl⟩⟩
  | 22, _, _ => of_22.mono fun r h => ⟨_, _, _, true, h, iffT ⟨by decide, by decide⟩, fun _ => ⟨rfl, rfl, rfl⟩⟩
  | 23, _, _ => of_23.mono fun r h => ⟨_, _, _, true, h, iffT ⟨by decide, by decide⟩, fun _ => ⟨rfl, rfl, rfl⟩⟩
  | 24, _, _ => of_24.mono fun r h => ⟨_, _, _, true, h, iffT ⟨by decide, by decide⟩, fun _ => ⟨rfl, rfl, rfl⟩⟩
  | 25, _, _ => of_25.mono fun r h => ⟨_, _, _, true, h, iffT ⟨by decide, by decide⟩, fun _ => ⟨rfl, rfl, rfl⟩⟩
  | 26, _, _ => of_26.mono fun r h => ⟨_, _, _, true, h, iffT ⟨by decide, by decide⟩, fun _ => ⟨rfl, rfl, rfl⟩⟩
  | 27, _, _ => of_27.mono fun r h => ⟨_, _, _, true, h, iffT ⟨by decide, by decide⟩, fun _ => ⟨rfl, rfl, rfl⟩⟩
  | 28, _, _ => of_28.mono fun r h => ⟨_, _, _, true, h, iffT ⟨by decide, by decide⟩, fun _ => ⟨rfl, rfl, rfl⟩⟩
  | 29, _, _ => of_29.mono fun r h => ⟨_, _, _, true, h, iffT ⟨by decide, by decide⟩, fun _ => ⟨rfl, rfl, rfl⟩⟩
  | 30, _, _ => of_30.mono fun r h => ⟨_, _, _, true, h, iffT ⟨by decide, by decide⟩, fun _ => ⟨rfl, rfl, rfl⟩⟩
  | k + 31, _, h => absurd h (by omega)
theorem of (op : Int) : VFun (P ()) 100 [.d (.int .i64 op)] (OfR op) := by
  by_cases h : 1 ≤ op ∧ op ≤ 30
  · have e : op = (op.toNat : Int) := by omega
    have := ofNat op.toNat (by omega) (by omega)
    rw [← e] at this
    exact this
  · exact (ofOut op h).mono fun r e => ⟨_, _, _, false, e, iffF h, fun h => (by cases h)⟩
end Go.VM
