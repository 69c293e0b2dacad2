/- Part of the proof: X24. -/
import Derived.Test.YtcpdnjehmnbheaaDoorX23
import Derived.Test.YtcpdnjehmnbheaaDoorVG2
namespace Go.VM
open Go.Proofs Go
set_option maxRecDepth 100000
set_option linter.unusedVariables false
set_option linter.unusedSimpArgs false

set_option maxHeartbeats 2000000
theorem f6 (s0 s1 : ByteArray) (tk ta : Int) : VFun (P ()) 6 [.d (.str s0), .agg [.d (.int .i64 tk), .d (.str s1), .d (.int .i64 ta)]] (fun r => r = .d (.bool true)) := by
  refine vfunO (Tf := @T) @tabOk [(8, upF 0 41)] 400 Tryd.func6 rfl (fun {_} => by kernel_rfl) rfl (Nat.le_of_ble_eq_true rfl) @fun ⟨_, _, _, _, _, _, _, _, _, _, _, _, _, _, _, _, _, _, _, _, _, _, _, _, _, _, _, _, _, _, _, _, _, _, _, _, _, _, wp, wf⟩ R hR => ?_
  cbv
  try simp only [wp, getL, takeL, dropL, TK.isAgg, reduceIte]
  refine ⟨fun c1 => ?_, fun c1 => ⟨fun c2 => ?_, fun c2 => ?_⟩⟩
  · (refine Later.mk ?_; cbv; try simp only [wp, getL, takeL, dropL, TK.isAgg, reduceIte])
    exact hR _ _ _ (.d _) rfl
  · (refine Later.mk ?_; cbv; try simp only [wp, getL, takeL, dropL, TK.isAgg, reduceIte])
    exact hR _ _ _ (.d _) rfl
  have hs0 : s0.size ≤ 15000 := (by (try simp only [wf, nc, nc'] at *); (try simp (disch := omega) only [w64, w32, wu8] at *); omega)
  have hs1 : s1.size ≤ 200 := (by (try simp only [wf, nc, nc'] at *); (try simp (disch := omega) only [w64, w32, wu8] at *); omega)
  have l0 := split_len s0
  have l1 := split_len s1
  have cs := fun h1 h2 h3 => @cat_split s0 s1 h1 h2 (by omega) h3
  (refine Later.mk ?_; cbv; try simp only [wp, getL, takeL, dropL, TK.isAgg, reduceIte])
  refine (f10 _ (by omega)).call ?_
  rintro _ ⟨n, c, a, K, S, O, k1, k2, -, k4, k5, k6, rfl⟩
  (cbv; try simp only [wp, getL, takeL, dropL, TK.isAgg, reduceIte])
  refine (f10 _ (by omega)).call ?_
  rintro _ ⟨m, c', a', K', S', O', k1', k2', -, k4', k5', k6', rfl⟩
  (cbv; try simp only [wp, getL, takeL, dropL, TK.isAgg, reduceIte])
  rw [← k1] at l0
  rw [← k1'] at l1
  rw [← k1, ← k2, ← k1', ← k2'] at cs
  repeat' first | with_reducible refine And.intro ?_ ?_ | intro c9
  all_goals first
    | ((refine Later.mk ?_; cbv; try simp only [wp, getL, takeL, dropL, TK.isAgg, reduceIte])
       refine f13.call ?_
       rintro _ rfl
       (cbv; try simp only [wp, getL, takeL, dropL, TK.isAgg, reduceIte])
       exact hR _ _ _ (.d _) rfl)
    | skip
  obtain ⟨C, hC⟩ := cs (by (try simp only [wf, nc, nc', Int.toNat_natCast] at *); (try simp (disch := omega) only [w64, w32, wu8] at *); omega) (by (try simp only [wf, nc, nc', Int.toNat_natCast] at *); (try simp (disch := omega) only [w64, w32, wu8] at *); omega) (by (try simp only [wf, nc, nc', Int.toNat_natCast] at *); (try simp (disch := omega) only [w64, w32, wu8] at *); omega)
  have hm : m = 1 := (by (try simp only [wf, nc, nc', Int.toNat_natCast] at *); (try simp (disch := omega) only [w64, w32, wu8] at *); omega)
  (refine Later.mk ?_; cbv; try simp only [wp, getL, takeL, dropL, TK.isAgg, reduceIte])
  have hnl : (⟨⟨[10]⟩⟩ : ByteArray).size = 1 := rfl
  refine ⟨(by (try simp only [wf, nc, nc', Int.toNat_natCast] at *); (try simp (disch := omega) only [w64, w32, wu8] at *); omega), (by (try simp only [wf, nc, nc', Int.toNat_natCast] at *); (try simp (disch := omega) only [w64, w32, wu8] at *); omega), (by ((try simp only [wf, nc, nc', Int.toNat_natCast] at *); (try simp (disch := omega) only [w64, w32, wu8] at *)); simp only [ByteArray.size_append]; omega), (by (try simp only [wf, nc, nc', Int.toNat_natCast] at *); (try simp (disch := omega) only [w64, w32, wu8] at *); omega), ?_⟩
  refine (f10 _ ?_).call ?_
  · ((try simp only [wf, nc, nc', Int.toNat_natCast] at *); (try simp (disch := omega) only [w64, w32, wu8] at *))
    simp only [ByteArray.size_append]
    omega
  rintro _ ⟨p, c3, a3, Kp, Sp, Op, q1, q2, -, q4, q5, q6, rfl⟩
  have r1 : p = n + m := by ((try simp only [wf, nc, nc', Int.toNat_natCast] at *); (try simp (disch := omega) only [w64, w32, wu8] at *)); rw [q1, hC, List.length_append, List.length_map, ← k1, ← k1']
  have r2 : c3 = 0 := by ((try simp only [wf, nc, nc', Int.toNat_natCast] at *); (try simp (disch := omega) only [w64, w32, wu8] at *)); rw [q2, hC]
  have r4 : Kp n = K' 0 ∧ Sp n = S' 0 := by
    ((try simp only [wf, nc, nc', Int.toNat_natCast] at *); (try simp (disch := omega) only [w64, w32, wu8] at *))
    rw [q4, q5, hC, k4', k5', k1]
    have := app_right (splitS s0).1 (splitS s1).1 (s0.size + 1) 0 (by omega)
    exact ⟨this.1, this.2.1⟩
  obtain ⟨r5, r6⟩ := r4
  subst r2
  clear q1 q2 q4 q5 q6 k4 k5 k6 k4' k5' k6'
  (cbv; try simp only [wp, getL, takeL, dropL, TK.isAgg, reduceIte])
  repeat' first | with_reducible refine And.intro ?_ ?_ | intro c9
  all_goals first
    | (exfalso; exact (by (try simp only [wf, nc, nc', Int.toNat_natCast] at *); (try simp (disch := omega) only [w64, w32, wu8] at *); omega))
    | exact (by (try simp only [wf, nc, nc', Int.toNat_natCast] at *); (try simp (disch := omega) only [w64, w32, wu8] at *); omega)
    | (exfalso; exact c9 rfl)
    | trivial
    | (exfalso; apply c9; ((try simp only [wf, nc, nc', Int.toNat_natCast] at *); (try simp (disch := omega) only [w64, w32, wu8] at *)); exact r6)
    | (exfalso; apply c9; ((try simp only [wf, nc, nc', Int.toNat_natCast] at *); (try simp (disch := omega) only [w64, w32, wu8] at *)); exact r5)
    | (refine f13.call ?_
       rintro _ rfl
       (cbv; try simp only [wp, getL, takeL, dropL, TK.isAgg, reduceIte])
       exact hR _ _ _ (.d _) rfl)
end Go.VM
