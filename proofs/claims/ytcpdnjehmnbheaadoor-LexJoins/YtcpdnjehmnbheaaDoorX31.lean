/- Part of the proof: X31. -/
import Derived.Test.YtcpdnjehmnbheaaDoorX30
namespace Go.VM
open Go.Proofs Go
set_option maxRecDepth 100000
set_option linter.unusedVariables false
set_option linter.unusedSimpArgs false

def tokA (k : Int) (t : ByteArray) (p : Int) : A := .agg [.d (.int .i64 k), .d (.str t), .d (.int .i64 p)]
theorem f30 (k : Int) (t : ByteArray) (p : Int) : VFun (P ()) 30 [.agg [.d (.int .i64 k), .d (.str t), .d (.int .i64 p)]] (fun r => ∃ b : Bool, b = decide (k ≠ 4) ∧ r = .d (.bool b)) := by
  refine vfunO (Tf := @T) @tabOk [] 400 Tryd.func30 rfl (fun {_} => by kernel_rfl) rfl (Nat.le_of_ble_eq_true rfl) @fun ⟨_, _, _, _, _, _, _, _, _, _, _, _, _, _, _, _, _, _, _, _, _, _, _, _, _, _, _, _, _, _, _, _, _, _, _, _, _, _, wp, wf⟩ R hR => ?_
  cbv
  try simp only [wp, getL, takeL, dropL, TK.isAgg, reduceIte]
  replace hR := fun b H h => hR _ H _ (.d (.bool b)) ⟨b, h, rfl⟩
  exact ⟨fun h => hR _ _ (by simp [h]), fun h => hR _ _ (by simp [h])⟩
theorem f33 (k : Int) (t : ByteArray) (p : Int) : VFun (P ()) 33 [.agg [.d (.int .i64 k), .d (.str t), .d (.int .i64 p)]] (fun r => ∃ b : Bool, b = decide (k ≠ 4) ∧ r = .d (.bool b)) := by
  refine vfunO (Tf := @T) @tabOk [] 400 Tryd.func33 rfl (fun {_} => by kernel_rfl) rfl (Nat.le_of_ble_eq_true rfl) @fun ⟨_, _, _, _, _, _, _, _, _, _, _, _, _, _, _, _, _, _, _, _, _, _, _, _, _, _, _, _, _, _, _, _, _, _, _, _, _, _, wp, wf⟩ R hR => ?_
  cbv
  try simp only [wp, getL, takeL, dropL, TK.isAgg, reduceIte]
  replace hR := fun b H h => hR _ H _ (.d (.bool b)) ⟨b, h, rfl⟩
  exact ⟨fun h => hR _ _ (by simp [h]), fun h => hR _ _ (by simp [h])⟩
/-- a text that is one token, of this kind -/
def aloneP (k : Int) (t : ByteArray) : Prop := (splitS t).2.2.1 = 0 ∧ (splitS t).1.length = 1 ∧ kindsL (splitS t).1 0 = k ∧ textsL (splitS t).1 0 = t
theorem f29 (k : Int) (t : ByteArray) (p : Int) (hs : t.size < 2 ^ 40) : VFun (P ()) 29 [.agg [.d (.int .i64 k), .d (.str t), .d (.int .i64 p)]] (fun r => ∃ b : Bool, (b = true ↔ aloneP k t) ∧ r = .d (.bool b)) := by
  refine vfunO (Tf := @T) @tabOk [(2, upF 0 27)] 400 Tryd.func29 rfl (fun {_} => by kernel_rfl) rfl (Nat.le_of_ble_eq_true rfl) @fun ⟨_, _, _, _, _, _, _, _, _, _, _, _, _, _, _, _, _, _, _, _, _, _, _, _, _, _, _, _, _, _, _, _, _, _, _, _, _, _, wp, wf⟩ R hR => ?_
  cbv
  try simp only [wp, getL, takeL, dropL, TK.isAgg, reduceIte]
  replace hR := fun b H h => hR _ H _ (.d (.bool b)) ⟨b, h, rfl⟩
  refine (f10 t hs).call ?_
  rintro _ ⟨n, c, a, K, S, O, h1, h2, h3, h4, h5, h6, rfl⟩
  have yes : n = 1 → c = 0 → K 0 = k → S 0 = t → ∀ H, R (A.d (D.bool true)) H := fun a1 a2 a3 a4 H => hR _ _ ⟨fun _ => ⟨by rw [← h2, a2], by rw [← h1, a1], by rw [← h4, a3], by rw [← h5, a4]⟩, fun _ => rfl⟩
  have no : ¬ (c = 0 ∧ n = 1 ∧ K 0 = k ∧ S 0 = t) → ∀ H, R (A.d (D.bool false)) H := fun a1 H => hR _ _ ⟨fun h => (by cases h), fun ⟨b1, b2, b3, b4⟩ => absurd ⟨by rw [h2, b1], by rw [h1, b2], by rw [h4, b3], by rw [h5, b4]⟩ a1⟩
  clear h1 h2 h3 h4 h5 h6 hR
  (cbv; try simp only [wp, getL, takeL, dropL, TK.isAgg, reduceIte])
  have z0 : Int.toNat 0 = 0 := rfl
  repeat' first | with_reducible refine And.intro ?_ ?_ | intro c9
  all_goals first
    | exact (by (try simp only [wf, nc, nc', Int.toNat_natCast] at *); (try simp (disch := omega) only [w64, w32, wu8] at *); omega)
    | trivial
    | (refine yes ?_ ?_ ?_ ?_ _ <;> (simp only [wf, nc, nc', z0] at *; first | assumption | omega))
    | (refine no (fun ⟨b1, b2, b3, b4⟩ => ?_) _; simp only [wf, nc, nc', z0] at *; first | exact c9 b1 | exact c9 b3 | exact c9 b4 | omega)
end Go.VM
