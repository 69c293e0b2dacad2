/- Part of the proof: X36. -/
import Derived.Test.YtcpdnjehmnbheaaDoorX26
import Derived.Test.YtcpdnjehmnbheaaDoorX34
namespace Go.VM
open Go.Proofs Go
set_option maxRecDepth 100000
set_option linter.unusedVariables false
set_option linter.unusedSimpArgs false

set_option maxHeartbeats 1000000 in
theorem f7 (s : ByteArray) : VFun (P ()) 7 [.d (.str s)] (fun r => r = .d (.bool true)) := by
  refine vfunO (Tf := @T) @tabOk [] 400 Tryd.func7 rfl (fun {_} => by kernel_rfl) rfl (Nat.le_of_ble_eq_true rfl) @fun ⟨_, _, _, _, _, _, _, _, _, _, _, _, _, _, _, _, _, _, _, _, _, _, _, _, _, _, _, _, _, _, _, _, _, _, _, _, _, _, wp, wf⟩ R hR => ?_
  cbv
  try simp only [wp, getL, takeL, dropL, TK.isAgg, reduceIte]
  replace hR := fun H => hR _ H _ (.d _) rfl
  refine ⟨fun h => ?_, fun h => ?_⟩
  · (refine Later.mk ?_; cbv; try simp only [wp, getL, takeL, dropL, TK.isAgg, reduceIte])
    exact hR _
  have hs : s.size < 2 ^ 40 := (by (try simp only [wf, nc, nc', Int.toNat_natCast] at *); (try simp (disch := omega) only [w64, w32, wu8] at *); omega)
  (refine Later.mk ?_; cbv; try simp only [wp, getL, takeL, dropL, TK.isAgg, reduceIte])
  refine (f10 s hs).call ?_
  rintro _ ⟨n, c, a, K, S, O, h1, h2, h3, h4, h5, h6, rfl⟩
  (cbv; try simp only [wp, getL, takeL, dropL, TK.isAgg, reduceIte])
  refine (f14 s hs).call ?_
  rintro _ ⟨t, c1, a1, q1, q2, q3, q4, rfl⟩
  have hc : c1 = c := q1.trans h2.symm
  have ha : a1 = a := q2.trans h3.symm
  subst hc ha
  (cbv; try simp only [wp, getL, takeL, dropL, TK.isAgg, reduceIte])
  refine ⟨fun hc => ?_, fun hc => ?_⟩
  · have ht := q4 hc
    subst ht
    clear q3 q4
    (refine Later.mk ?_; cbv; try simp only [wp, getL, takeL, dropL, TK.isAgg, reduceIte])
    repeat' first | with_reducible refine And.intro ?_ ?_ | intro c9
    all_goals first
      | exact (by (try simp only [wf, nc, nc', Int.toNat_natCast] at *); (try simp (disch := omega) only [w64, w32, wu8] at *); omega)
      | trivial
      | (refine f13.call ?_
         rintro _ rfl
         (cbv; try simp only [wp, getL, takeL, dropL, TK.isAgg, reduceIte])
         exact hR _)
      | (exfalso; first | exact absurd rfl c9 | (simp at c9; done) | (cases c9; done))
  · have hc : c1 = 0 := (by (try simp only [wf, nc, nc', Int.toNat_natCast] at *); (try simp (disch := omega) only [w64, w32, wu8] at *); omega)
    have ht := q3 hc
    obtain ⟨T', e1, e2, e3, e4⟩ := strip_split s (by rw [← q1]; exact hc)
    rw [← ht] at e1 e3 e4
    have hs2 : t.size < 2 ^ 40 := by omega
    have hl : T'.length = n := by
      have := congrArg List.length e2
      rw [h1]
      simpa using this
    have hl6 := split_len s
    rw [← h1] at hl6
    clear q3 q4
    (refine Later.mk ?_; cbv; try simp only [wp, getL, takeL, dropL, TK.isAgg, reduceIte])
    refine (f10 t hs2).call ?_
    rintro _ ⟨n', c', a', K', S', O', k1, k2, k3, k4, k5, k6, rfl⟩
    (cbv; try simp only [wp, getL, takeL, dropL, TK.isAgg, reduceIte])
    refine (f14 t hs2).call ?_
    rintro _ ⟨t2, c2, a2, p1, p2, p3, p4, rfl⟩
    rw [e1] at k1 k2 k3 k4 k5 k6 p1 p2
    dsimp only at k1 k2 k3 k4 k5 k6 p1 p2
    have ht2 : t2 = t := (p3 p1).trans e3
    subst k2 k3 p1 p2 ht2
    clear p3 p4
    have hn : n' = n := k1.trans hl
    have hal : Tk.alike ⟨K, S, O⟩ ⟨K', S', O'⟩ n = true := alike_of _ _ n fun i hi => by
      have e := congrArg (fun l => (l[i]?).map Prod.fst) e2
      have e' := congrArg (fun l => (l[i]?).map Prod.snd) e2
      have i1 : i < T'.length := by omega
      have i2 : i < (splitS s).1.length := by omega
      simp [List.getElem?_map, i1, i2, Nx.kt] at e e'
      simp only [Tk.ktAt, h4, h5, k4, k5, kindsL, textsL]
      simp [i1, i2, e, e']
    (cbv; try simp only [wp, getL, takeL, dropL, TK.isAgg, reduceIte])
    refine ⟨fun _ => ?_, fun c9 => absurd trivial c9⟩
    refine (f15 _ _ _ _ _ _ _ _ (by omega) (by omega)).call ?_
    rintro _ ⟨b, hb, rfl⟩
    replace hb : b = true := by rw [hb, hal]; simp [hn]
    subst hb
    (cbv; try simp only [wp, getL, takeL, dropL, TK.isAgg, reduceIte])
    repeat' first | with_reducible refine And.intro ?_ ?_ | intro c9
    all_goals first
      | exact (by (try simp only [wf, nc, nc', Int.toNat_natCast] at *); (try simp (disch := omega) only [w64, w32, wu8] at *); omega)
      | trivial
      | (refine f13.call ?_
         rintro _ rfl
         (cbv; try simp only [wp, getL, takeL, dropL, TK.isAgg, reduceIte])
         exact hR _)
      | (exfalso; first | exact absurd rfl c9 | (simp at c9; done) | (cases c9; done))
end Go.VM
