/- Part of the proof: X35. -/
import Derived.Test.YtcpdnjehmnbheaaDoorX29
import Derived.Test.YtcpdnjehmnbheaaDoorX33
namespace Go.VM
open Go.Proofs Go
set_option maxRecDepth 100000
set_option linter.unusedVariables false
set_option linter.unusedSimpArgs false

set_option maxHeartbeats 1000000 in
theorem f9 (s : ByteArray) (i : Int) : VFun (P ()) 9 [.d (.str s), .d (.int .i64 i)] (fun r => r = .d (.bool true)) := by
  refine vfunO (Tf := @T) @tabOk [] 400 Tryd.func9 rfl (fun {_} => by kernel_rfl) rfl (Nat.le_of_ble_eq_true rfl) @fun ⟨_, _, _, _, _, _, _, _, _, _, _, _, _, _, _, _, _, _, _, _, _, _, _, _, _, _, _, _, _, _, _, _, _, _, _, _, _, _, wp, wf⟩ R hR => ?_
  cbv
  try simp only [wp, getL, takeL, dropL, TK.isAgg, reduceIte]
  replace hR := fun H => hR _ H _ (.d _) rfl
  refine ⟨fun h => ?_, fun h => ?_⟩
  · (refine Later.mk ?_; cbv; try simp only [wp, getL, takeL, dropL, TK.isAgg, reduceIte])
    exact hR _
  have hs : s.size < 2 ^ 40 := (by (try simp only [wf, nc, nc', Int.toNat_natCast] at *); (try simp (disch := omega) only [w64, w32, wu8] at *); omega)
  (refine Later.mk ?_; cbv; try simp only [wp, getL, takeL, dropL, TK.isAgg, reduceIte])
  refine (f19 s i hs).call ?_
  rintro _ ⟨a, b, c, e1, rfl⟩
  (cbv; try simp only [wp, getL, takeL, dropL, TK.isAgg, reduceIte])
  refine (f20 s i hs).call ?_
  rintro _ ⟨a', b', c', e2, rfl⟩
  rw [← e1] at e2
  cases e2
  (cbv; try simp only [wp, getL, takeL, dropL, TK.isAgg, reduceIte])
  refine (f14 s hs).call ?_
  rintro _ ⟨t, c1, a1, q1, q2, q3, q4, rfl⟩
  (cbv; try simp only [wp, getL, takeL, dropL, TK.isAgg, reduceIte])
  refine (f21 s hs).call ?_
  rintro _ ⟨t', c2, a2, p1, p2, p3, p4, rfl⟩
  have hc : c2 = c1 := p1.trans q1.symm
  have ha : a2 = a1 := p2.trans q2.symm
  have ht : t' = t := by
    by_cases h0 : c1 = 0
    · rw [q3 h0, p3 (hc.trans h0)]
    · rw [q4 h0, p4 (by rw [hc]; exact h0)]
  subst hc ha ht
  clear q3 q4 p3 p4
  (cbv; try simp only [wp, getL, takeL, dropL, TK.isAgg, reduceIte])
  repeat' first | with_reducible refine And.intro ?_ ?_ | intro c9
  all_goals first
    | exact (by (try simp only [wf, nc, nc', Int.toNat_natCast] at *); (try simp (disch := omega) only [w64, w32, wu8] at *); omega)
    | trivial
    | (refine f13.call ?_
       rintro _ rfl
       (cbv; try simp only [wp, getL, takeL, dropL, TK.isAgg, reduceIte])
       exact hR _)
    | (exfalso; first | exact absurd rfl c9 | (simp at c9; done) | (cases c9; done))
end Go.VM
