/- Part of the proof: TA1. -/
import Derived.Test.YtfbecfnagidioaaDoorGX15
import Derived.Test.YtfbecfnagidioaaDoorGX16
namespace Go.VM
open Go.Proofs Go
set_option maxRecDepth 100000
set_option linter.unusedVariables false
set_option linter.unusedSimpArgs false
set_option maxHeartbeats 4000000 in
theorem lawTermForms (t : Tm) : VFun (P ()) 3 [tm t] (fun r => r = .d (.bool true)) := by
  obtain ⟨f, hf⟩ : ∃ f, f = tmD t := ⟨_, rfl⟩
  have e : tm t = .agg [.d (f 0), .d (f 1), .d (f 2), .d (f 3), .d (f 4)] := by rw [hf]; rfl
  have hh := heavyV 1 (fun _ j => f j) (fun _ => t) (by decide) (fun i _ => e)
  have c1 := fun hl => Size t hl
  have c2 := fun hl => RSize t hl
  have c3 := fun hl => Form t hl
  have c4 := fun hl => RForm t hl
  have c5 := fun hl => Valid03 t hl
  have c6 := fun hl => RValid03 t hl
  obtain ⟨x, hx⟩ : ∃ x, x = cntT t := ⟨_, rfl⟩
  obtain ⟨y, hy⟩ : ∃ y, y = depT t := ⟨_, rfl⟩
  rw [← hx, ← hy] at c1 c2
  rw [e] at c1 c2 c3 c4 c5 c6 ⊢
  clear hf hx hy e
  refine vfunO (Tf := fun {_} _ => fzT [1] (T ())) (fun {_} => tabOk.frz [1]) [] 400 Tryd.func3 rfl (fun {_} => by kernel_rfl) rfl (Nat.le_of_ble_eq_true rfl) @fun ⟨_, _, _, _, _, _, _, _, _, _, _, _, _, _, _, _, _, _, _, _, _, _, _, _, _, _, _, _, _, _, _, _, _, _, _, _, _, _, wp, wf⟩ R hR => ?_
  cbv
  try simp only [wp, (show ∀ n : Nat, _ = n from fun n => wf.2.2.2.2.2.2.2.2.2.2.2.2.2.1 (Int.ofNat n)), getL, takeL, dropL, TK.isAgg, reduceIte]
  replace hR := fun H => hR _ H _ (.d (.bool true)) rfl
  (refine CallW.frz @fun ⟨_, _, _, _, _, _, _, _, _, _, _, _, _, _, _, _, _, _, _, _, _, _, _, _, _, _, _, _, _, _, _, _, _, _, _, _, _, _, wpz, wfz⟩ => ?_; cbv; try simp only [wpz, wp, (show ∀ n : Nat, _ = n from fun n => wfz.2.2.2.2.2.2.2.2.2.2.2.2.2.1 (Int.ofNat n)), getL, takeL, dropL, TK.isAgg, reduceIte])
  repeat' first | trivial | with_reducible refine And.intro ?_ ?_ | intro c9
  refine CallW.args (args' := [.d (.sl 1 5 fun _ j => f j)]) (fun {_ _} => ⟨?_, trivial⟩) ?_
  · ((try simp only [wf, wfz, nc, nc', Int.toNat_natCast, bsz, ByteArray.size_append, List.length_cons, List.length_nil] at *); (try simp (disch := omega) only [w64, w32, wu8] at *))
    refine .sl _ _ _ _ fun i j hi hj => ?_
    match i, hi with
    | 0, _ =>
      match j, hj with
      | 0, _ | 1, _ | 2, _ | 3, _ | 4, _ => exact .refl _
  refine hh.call ?_
  rintro _ ⟨b, hb, rfl⟩
  cases b <;> (cbv; try simp only [wp, (show ∀ n : Nat, _ = n from fun n => wf.2.2.2.2.2.2.2.2.2.2.2.2.2.1 (Int.ofNat n)), (show _ = (0 : Nat) from wf.2.2.2.2.2.2.2.2.2.2.2.2.2.1 0), getL, takeL, dropL, TK.isAgg, reduceIte])
  · have hl := hb rfl 0 (by decide)
    (refine Later.mk ?_; cbv; try simp only [wp, (show ∀ n : Nat, _ = n from fun n => wf.2.2.2.2.2.2.2.2.2.2.2.2.2.1 (Int.ofNat n)), (show _ = (0 : Nat) from wf.2.2.2.2.2.2.2.2.2.2.2.2.2.1 0), getL, takeL, dropL, TK.isAgg, reduceIte])
    repeat' first | trivial | with_reducible refine And.intro ?_ ?_ | intro c9
    refine (c1 hl).call ?_
    rintro _ rfl
    (cbv; try simp only [wp, (show ∀ n : Nat, _ = n from fun n => wf.2.2.2.2.2.2.2.2.2.2.2.2.2.1 (Int.ofNat n)), (show _ = (0 : Nat) from wf.2.2.2.2.2.2.2.2.2.2.2.2.2.1 0), getL, takeL, dropL, TK.isAgg, reduceIte])
    repeat' first | trivial | with_reducible refine And.intro ?_ ?_ | intro c9
    refine (c2 hl).call ?_
    rintro _ rfl
    (cbv; try simp only [wp, (show ∀ n : Nat, _ = n from fun n => wf.2.2.2.2.2.2.2.2.2.2.2.2.2.1 (Int.ofNat n)), (show _ = (0 : Nat) from wf.2.2.2.2.2.2.2.2.2.2.2.2.2.1 0), getL, takeL, dropL, TK.isAgg, reduceIte])
    repeat' first | trivial | with_reducible refine And.intro ?_ ?_ | intro c9
    refine (c3 hl).call ?_
    rintro _ ⟨b1, hb1, rfl⟩
    (cbv; try simp only [wp, (show ∀ n : Nat, _ = n from fun n => wf.2.2.2.2.2.2.2.2.2.2.2.2.2.1 (Int.ofNat n)), (show _ = (0 : Nat) from wf.2.2.2.2.2.2.2.2.2.2.2.2.2.1 0), getL, takeL, dropL, TK.isAgg, reduceIte])
    repeat' first | trivial | with_reducible refine And.intro ?_ ?_ | intro c9
    refine (c4 hl).call ?_
    rintro _ ⟨b2, hb2, rfl⟩
    obtain rfl : b2 = b1 := Bool.eq_iff_iff.2 (hb2.trans hb1.symm)
    clear hb1 hb2
    cases b2 <;> (cbv; try simp only [wp, (show ∀ n : Nat, _ = n from fun n => wf.2.2.2.2.2.2.2.2.2.2.2.2.2.1 (Int.ofNat n)), (show _ = (0 : Nat) from wf.2.2.2.2.2.2.2.2.2.2.2.2.2.1 0), getL, takeL, dropL, TK.isAgg, reduceIte])
    all_goals
      repeat' first | trivial | with_reducible refine And.intro ?_ ?_ | intro c9
      refine (c5 hl).call ?_
      rintro _ ⟨b1, hb1, rfl⟩
      (cbv; try simp only [wp, (show ∀ n : Nat, _ = n from fun n => wf.2.2.2.2.2.2.2.2.2.2.2.2.2.1 (Int.ofNat n)), (show _ = (0 : Nat) from wf.2.2.2.2.2.2.2.2.2.2.2.2.2.1 0), getL, takeL, dropL, TK.isAgg, reduceIte])
      repeat' first | trivial | with_reducible refine And.intro ?_ ?_ | intro c9
      refine (c6 hl).call ?_
      rintro _ ⟨b2, hb2, rfl⟩
      obtain rfl : b2 = b1 := Bool.eq_iff_iff.2 (hb2.trans hb1.symm)
      clear hb1 hb2
      cases b2 <;> (cbv; try simp only [wp, (show ∀ n : Nat, _ = n from fun n => wf.2.2.2.2.2.2.2.2.2.2.2.2.2.1 (Int.ofNat n)), (show _ = (0 : Nat) from wf.2.2.2.2.2.2.2.2.2.2.2.2.2.1 0), getL, takeL, dropL, TK.isAgg, reduceIte])
      all_goals
        repeat' first | trivial | with_reducible refine And.intro ?_ ?_ | intro c9
        refine awakeT.call ?_
        rintro _ rfl
        (cbv; try simp only [wp, (show ∀ n : Nat, _ = n from fun n => wf.2.2.2.2.2.2.2.2.2.2.2.2.2.1 (Int.ofNat n)), (show _ = (0 : Nat) from wf.2.2.2.2.2.2.2.2.2.2.2.2.2.1 0), getL, takeL, dropL, TK.isAgg, reduceIte])
        repeat' first | trivial | with_reducible refine And.intro ?_ ?_ | intro c9
        all_goals exact hR _
  · (refine Later.mk ?_; cbv; try simp only [wp, (show ∀ n : Nat, _ = n from fun n => wf.2.2.2.2.2.2.2.2.2.2.2.2.2.1 (Int.ofNat n)), (show _ = (0 : Nat) from wf.2.2.2.2.2.2.2.2.2.2.2.2.2.1 0), getL, takeL, dropL, TK.isAgg, reduceIte])
    exact hR _
end Go.VM
