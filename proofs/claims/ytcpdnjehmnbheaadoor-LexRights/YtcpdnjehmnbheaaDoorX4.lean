/- Contracts of the functions that the law reaches: part of the proof (X4). -/
import Derived.Test.YtcpdnjehmnbheaaDoorX3
import Derived.Lib.Strings
import Derived.Lib.Slices
import Derived.Lib.Walk
import Derived.Lib.Bytealg
namespace Go.VM
open Go.Proofs Go
set_option maxRecDepth 100000
set_option linter.unusedVariables false
set_option linter.unusedSimpArgs false

theorem vfun_calls2 {Q : Program} {K : FuncId} {s : ByteArray} {k k' : IntKind} {c r : Int} (h : ∀ w, Calls Q K #[.string s, .int k c] w fun e w' => e = .returned (.int k' r) ∧ w' = w) : VFun Q K [.d (.str s), .d (.int k c)] (fun x => x = .d (.int k' r)) := by
  intro H lim B ι I w vs hrel hargs
  obtain ⟨hl, hk⟩ := hargs
  match vs, hl with
  | [a, b], _ =>
    have h0 := hk 0 (by simp)
    have h1 := hk 1 (by simp)
    simp only [List.getD_cons_zero, List.getD_cons_succ] at h0 h1
    cases h0 with | d _ _ h0 =>
    cases h1 with | d _ _ h1 =>
    cases h0
    cases h1
    refine (h w).mono ?_
    rintro e w' ⟨rfl, rfl⟩
    exact ⟨_, _, H, ι, I, rfl, ⟨rfl, rfl⟩, hrel, .d _ _ (.int _ _), ⟨.refl _ _, Nat.le_refl _, fun _ _ h => h⟩⟩

set_option maxHeartbeats 1000000 in
theorem calls73 (s : ByteArray) (c : Int) (w : World) :
    Calls Tryd.prog 73 #[.string s, .int .u8 c] w fun e w' => e = .returned (.int .i64 (Lib.indexByte s.data.toList c.toNat.toUInt8)) ∧ w' = w := by
  go_enter Tryd.func73, Tryd.ntmps73
  go_wp2
  rw [run_callFunc_extern Tryd.func78 (by kernel_rfl) (by kernel_rfl) (by kernel_rfl) (e := Extern.BytealgIndexByte.indexByte) (by kernel_rfl), Lib.run_indexByteString]
  simp only [Result.andThen]
  rw [Oper.upon_value]
  go_wp2
  go_ret
  exact ⟨rfl, rfl⟩

theorem f73 (s : ByteArray) (c : Int) : VFun (P ()) 73 [.d (.str s), .d (.int .u8 c)] (fun r => r = .d (.int .i64 (Lib.indexByte s.data.toList c.toNat.toUInt8))) := vfun_calls2 (calls73 s c)

theorem f69 (s : ByteArray) (c : Int) : VFun (P ()) 69 [.d (.str s), .d (.int .u8 c)] (fun r => ∃ b, b = Lib.indexByte s.data.toList c.toNat.toUInt8 ∧ r = .d (.int .i64 b)) := by
  refine vfun (Tf := @T) @tabOk Tryd.func69 rfl rfl (Nat.le_of_ble_eq_true rfl) @fun ⟨_, _, _, _, _, _, _, _, _, _, _, _, _, _, _, _, _, _, _, _, _, _, _, _, _, _, _, _, _, _, _, _, _, _, _, _, _, _, wp, wf⟩ R hR => ?_
  cbv
  try simp only [wp, getL, takeL, dropL, TK.isAgg, reduceIte]
  refine (f73 _ _).call ?_
  rintro _ rfl
  generalize hb : Lib.indexByte s.data.toList c.toNat.toUInt8 = b at *
  (cbv; try simp only [wp, getL, takeL, dropL, TK.isAgg, reduceIte])
  exact hR _ _ _ (.d _) ⟨_, rfl, rfl⟩

/-- the bytes at a place -/
def preB (s p : ByteArray) : Bool := decide (p.size ≤ s.size) && decide (s.extract 0 p.size = p)

theorem f70 (s p : ByteArray) : VFun (P ()) 70 [.d (.str s), .d (.str p)] (fun r => ∃ b, b = preB s p ∧ r = .d (.bool b)) := by
  refine vfun (Tf := @T) @tabOk Tryd.func70 rfl rfl (Nat.le_of_ble_eq_true rfl) @fun ⟨_, _, _, _, _, _, _, _, _, _, _, _, _, _, _, _, _, _, _, _, _, _, _, _, _, _, _, _, _, _, _, _, _, _, _, _, _, _, wp, wf⟩ R hR => ?_
  cbv
  try simp only [wp, getL, takeL, dropL, TK.isAgg, reduceIte]
  replace hR := fun b H h => hR _ H _ (.d (.bool b)) ⟨b, h, rfl⟩
  refine ⟨fun h => ⟨(by (try simp only [wf, nc, nc'] at *); (try simp (disch := omega) only [w64, w32, wu8] at *); omega), (by (try simp only [wf, nc, nc'] at *); (try simp (disch := omega) only [w64, w32, wu8] at *); omega), (by (try simp only [wf, nc, nc'] at *); (try simp (disch := omega) only [w64, w32, wu8] at *); omega), fun e => ?_, fun e => ?_⟩, fun h => ?_⟩
  · apply hR
    ((try simp only [wf, nc, nc'] at *); (try simp (disch := omega) only [w64, w32, wu8] at *))
    have h : p.size ≤ s.size := by omega
    simp at e
    simp [preB, h, e]
  · apply hR
    ((try simp only [wf, nc, nc'] at *); (try simp (disch := omega) only [w64, w32, wu8] at *))
    have h : p.size ≤ s.size := by omega
    simp at e
    simp [preB, h, e]
  · apply hR
    ((try simp only [wf, nc, nc'] at *); (try simp (disch := omega) only [w64, w32, wu8] at *))
    have h : ¬ p.size ≤ s.size := by omega
    simp [preB, h]
theorem f63 (s p : ByteArray) : VFun (P ()) 63 [.d (.str s), .d (.str p)] (fun r => ∃ b, b = preB s p ∧ r = .d (.bool b)) := by
  refine vfun (Tf := @T) @tabOk Tryd.func63 rfl rfl (Nat.le_of_ble_eq_true rfl) @fun ⟨_, _, _, _, _, _, _, _, _, _, _, _, _, _, _, _, _, _, _, _, _, _, _, _, _, _, _, _, _, _, _, _, _, _, _, _, _, _, wp, wf⟩ R hR => ?_
  cbv
  try simp only [wp, getL, takeL, dropL, TK.isAgg, reduceIte]
  replace hR := fun b H h => hR _ H _ (.d (.bool b)) ⟨b, h, rfl⟩
  refine (f70 _ _).call ?_
  rintro _ ⟨b, hb, rfl⟩
  (cbv; try simp only [wp, getL, takeL, dropL, TK.isAgg, reduceIte])
  exact hR _ _ hb
end Go.VM
