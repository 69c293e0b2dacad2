/- Contracts of the functions that the law reaches: part of the proof (X1). -/
import Derived.Test.YtcpdnjehmnbheaaDoorLexT
namespace Go.VM
open Go.Proofs
set_option maxRecDepth 100000
set_option linter.unusedVariables false
set_option linter.unusedSimpArgs false

def letterB (c : Int) : Bool := (97 ≤ c && c ≤ 122) || (65 ≤ c && c ≤ 90) || c == 95
def digitB (c : Int) : Bool := 48 ≤ c && c ≤ 57
def blankB (c : Int) : Bool := c == 32 || c == 9 || c == 10 || c == 13
/-- the byte at a place, or 0 behind the end -/
def atI (s : ByteArray) (i : Int) : Int := if i < s.size then btF s i else 0

theorem f38 (c : Int) : VFun (P ()) 38 [.d (.int .u8 c)] (fun r => ∃ b, b = letterB c ∧ r = .d (.bool b)) := by
  refine vfun (Tf := @T) @tabOk Tryd.func38 rfl rfl (Nat.le_of_ble_eq_true rfl) @fun ⟨_, _, _, _, _, _, _, _, _, _, _, _, _, _, _, _, _, _, _, _, _, _, _, _, _, _, _, _, _, _, _, _, _, _, _, _, _, _, wp, wf⟩ R hR => ?_
  cbv
  simp only [wp, wf, getL, nc, nc']
  try simp only [nc] at *
  clear wp wf
  replace hR := fun b H h => hR _ H _ (.d (.bool b)) ⟨b, h, rfl⟩
  repeat' first | refine ⟨?_, ?_⟩ | intro _
  all_goals first | (apply hR; simp [letterB]; omega) | omega
theorem f39 (c : Int) : VFun (P ()) 39 [.d (.int .u8 c)] (fun r => ∃ b, b = digitB c ∧ r = .d (.bool b)) := by
  refine vfun (Tf := @T) @tabOk Tryd.func39 rfl rfl (Nat.le_of_ble_eq_true rfl) @fun ⟨_, _, _, _, _, _, _, _, _, _, _, _, _, _, _, _, _, _, _, _, _, _, _, _, _, _, _, _, _, _, _, _, _, _, _, _, _, _, wp, wf⟩ R hR => ?_
  cbv
  simp only [wp, wf, getL, nc, nc']
  try simp only [nc] at *
  clear wp wf
  replace hR := fun b H h => hR _ H _ (.d (.bool b)) ⟨b, h, rfl⟩
  repeat' first | refine ⟨?_, ?_⟩ | intro _
  all_goals first | (apply hR; simp [digitB]; omega) | omega
theorem f52 (c : Int) : VFun (P ()) 52 [.d (.int .u8 c)] (fun r => ∃ b, b = blankB c ∧ r = .d (.bool b)) := by
  refine vfun (Tf := @T) @tabOk Tryd.func52 rfl rfl (Nat.le_of_ble_eq_true rfl) @fun ⟨_, _, _, _, _, _, _, _, _, _, _, _, _, _, _, _, _, _, _, _, _, _, _, _, _, _, _, _, _, _, _, _, _, _, _, _, _, _, wp, wf⟩ R hR => ?_
  cbv
  simp only [wp, wf, getL, nc, nc']
  try simp only [nc] at *
  clear wp wf
  replace hR := fun b H h => hR _ H _ (.d (.bool b)) ⟨b, h, rfl⟩
  repeat' first | refine ⟨?_, ?_⟩ | intro _
  all_goals first | (apply hR; simp [blankB]; omega) | omega
theorem f55 (c : Int) : VFun (P ()) 55 [.d (.int .i32 c)] (fun r => ∃ b, b = letterB c ∧ r = .d (.bool b)) := by
  refine vfun (Tf := @T) @tabOk Tryd.func55 rfl rfl (Nat.le_of_ble_eq_true rfl) @fun ⟨_, _, _, _, _, _, _, _, _, _, _, _, _, _, _, _, _, _, _, _, _, _, _, _, _, _, _, _, _, _, _, _, _, _, _, _, _, _, wp, wf⟩ R hR => ?_
  cbv
  simp only [wp, wf, getL, nc, nc']
  try simp only [nc] at *
  clear wp wf
  replace hR := fun b H h => hR _ H _ (.d (.bool b)) ⟨b, h, rfl⟩
  repeat' first | refine ⟨?_, ?_⟩ | intro _
  all_goals first | (apply hR; simp [letterB]; omega) | omega
theorem f57 (c : Int) : VFun (P ()) 57 [.d (.int .i32 c)] (fun r => ∃ b, b = digitB c ∧ r = .d (.bool b)) := by
  refine vfun (Tf := @T) @tabOk Tryd.func57 rfl rfl (Nat.le_of_ble_eq_true rfl) @fun ⟨_, _, _, _, _, _, _, _, _, _, _, _, _, _, _, _, _, _, _, _, _, _, _, _, _, _, _, _, _, _, _, _, _, _, _, _, _, _, wp, wf⟩ R hR => ?_
  cbv
  simp only [wp, wf, getL, nc, nc']
  try simp only [nc] at *
  clear wp wf
  replace hR := fun b H h => hR _ H _ (.d (.bool b)) ⟨b, h, rfl⟩
  repeat' first | refine ⟨?_, ?_⟩ | intro _
  all_goals first | (apply hR; simp [digitB]; omega) | omega
theorem f37 (s : ByteArray) (i : Int) (h0 : 0 ≤ i) : VFun (P ()) 37 [.d (.str s), .d (.int .i64 i)] (fun r => ∃ b, b = atI s i ∧ r = .d (.int .u8 b)) := by
  refine vfun (Tf := @T) @tabOk Tryd.func37 rfl rfl (Nat.le_of_ble_eq_true rfl) @fun ⟨_, _, _, _, _, _, _, _, _, _, _, _, _, _, _, _, _, _, _, _, _, _, _, _, _, _, _, _, _, _, _, _, _, _, _, _, _, _, wp, wf⟩ R hR => ?_
  cbv
  simp only [wp, wf, getL, nc, nc']
  try simp only [nc] at *
  clear wp wf
  replace hR := fun b H h => hR _ H _ (.d (.int .u8 b)) ⟨b, h, rfl⟩
  repeat' first | refine ⟨?_, ?_⟩ | intro _
  all_goals first | omega | (apply hR; simp only [atI]; split <;> first | rfl | omega)
theorem f54 (s : ByteArray) (i : Int) (h0 : 0 ≤ i) : VFun (P ()) 54 [.d (.str s), .d (.int .i64 i)] (fun r => ∃ b, b = atI s i ∧ r = .d (.int .i32 b)) := by
  refine vfun (Tf := @T) @tabOk Tryd.func54 rfl rfl (Nat.le_of_ble_eq_true rfl) @fun ⟨_, _, _, _, _, _, _, _, _, _, _, _, _, _, _, _, _, _, _, _, _, _, _, _, _, _, _, _, _, _, _, _, _, _, _, _, _, _, wp, wf⟩ R hR => ?_
  cbv
  simp only [wp, wf, getL, nc, nc']
  try simp only [nc] at *
  clear wp wf
  rw [w32 (by have := btF_lo s i; omega) (by have := btF_hi s i; omega)]
  replace hR := fun b H h => hR _ H _ (.d (.int .i32 b)) ⟨b, h, rfl⟩
  repeat' first | refine ⟨?_, ?_⟩ | intro _
  all_goals first | omega | (apply hR; simp only [atI]; split <;> first | rfl | omega)
end Go.VM
