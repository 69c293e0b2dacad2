/- Part of the proof: TT20, TA3. -/
import Derived.Test.YtfbecfnagidioaaDoorGX17
import Derived.Test.YtfbecfnagidioaaDoorGX15
namespace Go.VM
open Go.Proofs Go
set_option maxRecDepth 100000
set_option linter.unusedVariables false
set_option linter.unusedSimpArgs false
theorem RShift (frm by' : Int) (t : Tm) (hs : 4 * nodesT t ≤ 1000000) : VFun (P ()) 26 [tm t, .d (.int .i64 by'), .d (.int .i64 frm)] (fun r => ∃ x : Tm, ∃ b : Bool, (b = true ↔ (0 ≤ frm ∧ frm ≤ 2147483648 ∧ -2147483648 ≤ by' ∧ by' ≤ 2147483648) ∧ OkT by' frm t 0) ∧ (b = true → x = mapT (fSh by' frm) t 0) ∧ (b = false → x = Tm.leaf) ∧ r = .tup [tm x, .d (.bool b)]) := by
  have hw := fun h3 h4 => rshift frm by' h3 h4 t 0 (by decide) (by omega)
  obtain ⟨g3, g4, el⟩ := tm_leaf
  refine VFun.mono (S := fun r => ∃ b : Bool, (b = true ↔ (0 ≤ frm ∧ frm ≤ 2147483648 ∧ -2147483648 ≤ by' ∧ by' ≤ 2147483648) ∧ OkT by' frm t 0) ∧ r = .tup [if b then tm (mapT (fSh by' frm) t 0) else tm Tm.leaf, .d (.bool b)]) ?_ fun r h => by
    obtain ⟨b, h1, rfl⟩ := h
    cases b
    · exact ⟨_, false, h1, fun h => (by cases h), fun _ => rfl, rfl⟩
    · exact ⟨_, true, h1, fun _ => rfl, fun h => (by cases h), rfl⟩
  rw [el] at hw ⊢
  unfold tm at hw ⊢
  obtain ⟨f, hf⟩ : ∃ f, f = tmD t := ⟨_, rfl⟩
  obtain ⟨g, hg⟩ : ∃ g, g = tmD (mapT (fSh by' frm) t 0) := ⟨_, rfl⟩
  rw [← hf, ← hg] at hw
  rw [← hf, ← hg]
  clear hf hg el
  refine vfunL (Tf := fun {_} _ => fzT [3] (T ())) (fun {_} => tabOk.frz [3]) [] 400 Tryd.func26 rfl (fun {_} => by kernel_rfl) rfl (Nat.le_of_ble_eq_true rfl) @fun ⟨_, _, _, _, _, _, _, _, _, _, _, _, _, _, _, _, _, _, _, _, _, _, _, _, _, _, _, _, _, _, _, _, _, _, _, _, _, _, wp, wf⟩ R hR => ?_
  cbv
  try simp only [wp, (show ∀ n : Nat, _ = n from fun n => wf.2.2.2.2.2.2.2.2.2.2.2.2.2.1 (Int.ofNat n)), getL, takeL, dropL, TK.isAgg, reduceIte]
  repeat' first | (with_reducible refine And.intro ?_ ?_) | intro c9 | trivial | (refine Later.mk ?_; cbv; try simp only [wp, (show ∀ n : Nat, _ = n from fun n => wf.2.2.2.2.2.2.2.2.2.2.2.2.2.1 (Int.ofNat n)), (show _ = (0 : Nat) from wf.2.2.2.2.2.2.2.2.2.2.2.2.2.1 0), getL, takeL, dropL, TK.isAgg, reduceIte])
  all_goals first
    | exact hR _ _ _ (.tup2 (.z5 g3 g4 _ _ _) (.d _)) ⟨false, iffF fun h => (by have h := h.1; exact absurd h (by (try simp only [wf, nc, nc', Int.toNat_natCast, bsz, ByteArray.size_append, List.length_cons, List.length_nil] at *); (try simp (disch := omega) only [w64, w32, wu8] at *); first | done | omega)), rfl⟩
    | skip
  have hr : (0 ≤ frm ∧ frm ≤ 2147483648 ∧ -2147483648 ≤ by' ∧ by' ≤ 2147483648) := (by (try simp only [wf, nc, nc', Int.toNat_natCast, bsz, ByteArray.size_append, List.length_cons, List.length_nil] at *); (try simp (disch := omega) only [w64, w32, wu8] at *); first | done | omega)
  refine (hw (by (try simp only [wf, nc, nc', Int.toNat_natCast, bsz, ByteArray.size_append, List.length_cons, List.length_nil] at *); (try simp (disch := omega) only [w64, w32, wu8] at *); first | done | omega) (by (try simp only [wf, nc, nc', Int.toNat_natCast, bsz, ByteArray.size_append, List.length_cons, List.length_nil] at *); (try simp (disch := omega) only [w64, w32, wu8] at *); first | done | omega)).call ?_
  rintro _ ⟨b, hb, rfl⟩
  cases b
  · (cbv; try simp only [wp, (show ∀ n : Nat, _ = n from fun n => wf.2.2.2.2.2.2.2.2.2.2.2.2.2.1 (Int.ofNat n)), (show _ = (0 : Nat) from wf.2.2.2.2.2.2.2.2.2.2.2.2.2.1 0), getL, takeL, dropL, TK.isAgg, reduceIte])
    repeat' first | (with_reducible refine And.intro ?_ ?_) | intro c9 | trivial | (refine Later.mk ?_; cbv; try simp only [wp, (show ∀ n : Nat, _ = n from fun n => wf.2.2.2.2.2.2.2.2.2.2.2.2.2.1 (Int.ofNat n)), (show _ = (0 : Nat) from wf.2.2.2.2.2.2.2.2.2.2.2.2.2.1 0), getL, takeL, dropL, TK.isAgg, reduceIte])
    all_goals exact hR _ _ _ (.tup2 (.same5 _ _ _ _ _) (.d _)) ⟨false, ⟨fun h => (by cases h), fun h => hb.2 h.2⟩, rfl⟩
  · (cbv; try simp only [wp, (show ∀ n : Nat, _ = n from fun n => wf.2.2.2.2.2.2.2.2.2.2.2.2.2.1 (Int.ofNat n)), (show _ = (0 : Nat) from wf.2.2.2.2.2.2.2.2.2.2.2.2.2.1 0), getL, takeL, dropL, TK.isAgg, reduceIte])
    repeat' first | (with_reducible refine And.intro ?_ ?_) | intro c9 | trivial | (refine Later.mk ?_; cbv; try simp only [wp, (show ∀ n : Nat, _ = n from fun n => wf.2.2.2.2.2.2.2.2.2.2.2.2.2.1 (Int.ofNat n)), (show _ = (0 : Nat) from wf.2.2.2.2.2.2.2.2.2.2.2.2.2.1 0), getL, takeL, dropL, TK.isAgg, reduceIte])
    all_goals exact hR _ _ _ (.tup2 (.same5 _ _ _ _ _) (.d _)) ⟨true, iffT ⟨hr, hb.1 rfl⟩, rfl⟩
end Go.VM

namespace Go.VM
open Go.Proofs Go
set_option maxRecDepth 100000
set_option linter.unusedVariables false
set_option linter.unusedSimpArgs false
set_option maxHeartbeats 4000000 in
theorem lawTermShifts (t : Tm) (by' frm : Int) : VFun (P ()) 5 [tm t, .d (.int .i64 by'), .d (.int .i64 frm)] (fun r => r = .d (.bool true)) := by
  obtain ⟨f, hf⟩ : ∃ f, f = tmD t := ⟨_, rfl⟩
  have e : tm t = .agg [.d (f 0), .d (f 1), .d (f 2), .d (f 3), .d (f 4)] := by rw [hf]; rfl
  have hh := heavyV 1 (fun _ j => f j) (fun _ => t) (by decide) (fun i _ => e)
  have c1 := fun h => CopyTerm t h
  have c2 := fun h => ShiftT frm by' t h
  have c3 := fun h => RShift frm by' t h
  have c4 := fun h => EqTerm t h
  have eqL := fun h => EqTerm Tm.leaf h
  rw [e] at c1 c2 c3 c4 ⊢
  clear hf e
  refine vfunO (Tf := fun {_} _ => fzT [3] (T ())) (fun {_} => tabOk.frz [3]) [] 400 Tryd.func5 rfl (fun {_} => by kernel_rfl) rfl (Nat.le_of_ble_eq_true rfl) @fun ⟨_, _, _, _, _, _, _, _, _, _, _, _, _, _, _, _, _, _, _, _, _, _, _, _, _, _, _, _, _, _, _, _, _, _, _, _, _, _, wp, wf⟩ R hR => ?_
  cbv
  try simp only [wp, (show ∀ n : Nat, _ = n from fun n => wf.2.2.2.2.2.2.2.2.2.2.2.2.2.1 (Int.ofNat n)), getL, takeL, dropL, TK.isAgg, reduceIte]
  replace hR := fun H => hR _ H _ (.d (.bool true)) rfl
  (refine CallW.frz @fun ⟨_, _, _, _, _, _, _, _, _, _, _, _, _, _, _, _, _, _, _, _, _, _, _, _, _, _, _, _, _, _, _, _, _, _, _, _, _, _, wpz, wfz⟩ => ?_; cbv; try simp only [wpz, wp, (show ∀ n : Nat, _ = n from fun n => wfz.2.2.2.2.2.2.2.2.2.2.2.2.2.1 (Int.ofNat n)), getL, takeL, dropL, TK.isAgg, reduceIte])
  repeat' first | trivial | with_reducible refine And.intro ?_ ?_ | intro c9
  refine CallW.args (args' := [.d (.sl 1 5 fun _ j => f j)]) (fun {_ _} => ⟨?_, trivial⟩) ?_
  · ((try simp only [wf, wfz, nc, nc', Int.toNat_natCast, bsz, ByteArray.size_append, List.length_cons, List.length_nil] at *); (try simp (disch := omega) only [w64, w32, wu8] at *))
    refine .sl _ _ _ _ fun i j hi hj => ?_
    match i, hi with
    | 0, _ =>
      match j, hj with
      | 0, _ | 1, _ | 2, _ | 3, _ | 4, _ => exact .refl _
  refine hh.call ?_
  rintro _ ⟨b, hb, rfl⟩
  cases b <;> (cbv; try simp only [wp, (show ∀ n : Nat, _ = n from fun n => wf.2.2.2.2.2.2.2.2.2.2.2.2.2.1 (Int.ofNat n)), (show _ = (0 : Nat) from wf.2.2.2.2.2.2.2.2.2.2.2.2.2.1 0), getL, takeL, dropL, TK.isAgg, reduceIte])
  · have hl := hb rfl 0 (by decide)
    have hs := hl.small (by decide)
    have hn : 4 * nodesT t ≤ 1000000 := by have := hl.1; omega
    have cx : ∀ x, x = mapT (fSh by' frm) t 0 ∨ x = Tm.leaf → Small x := fun x h => by
      rcases h with rfl | rfl
      · unfold Small; rw [nodesT_sh]; exact hs
      · unfold Small; decide
    (refine Later.mk ?_; cbv; try simp only [wp, (show ∀ n : Nat, _ = n from fun n => wf.2.2.2.2.2.2.2.2.2.2.2.2.2.1 (Int.ofNat n)), (show _ = (0 : Nat) from wf.2.2.2.2.2.2.2.2.2.2.2.2.2.1 0), getL, takeL, dropL, TK.isAgg, reduceIte])
    repeat' first | trivial | with_reducible refine And.intro ?_ ?_ | intro c9
    refine (c1 hs).call ?_
    rintro _ rfl
    (cbv; try simp only [wp, (show ∀ n : Nat, _ = n from fun n => wf.2.2.2.2.2.2.2.2.2.2.2.2.2.1 (Int.ofNat n)), (show _ = (0 : Nat) from wf.2.2.2.2.2.2.2.2.2.2.2.2.2.1 0), getL, takeL, dropL, TK.isAgg, reduceIte])
    repeat' first | trivial | with_reducible refine And.intro ?_ ?_ | intro c9
    refine (c2 hn).call ?_
    rintro _ ⟨x, b, hb1, hb2, hb3, rfl⟩
    have hx := EqTerm x (cx x (by cases b; exact .inr (hb3 rfl); exact .inl (hb2 rfl)))
    obtain ⟨g, hg⟩ : ∃ g : Nat → D, tm x = .agg [.d (g 0), .d (g 1), .d (g 2), .d (g 3), .d (g 4)] := ⟨tmD x, rfl⟩
    rw [hg] at hx ⊢
    (cbv; try simp only [wp, (show ∀ n : Nat, _ = n from fun n => wf.2.2.2.2.2.2.2.2.2.2.2.2.2.1 (Int.ofNat n)), (show _ = (0 : Nat) from wf.2.2.2.2.2.2.2.2.2.2.2.2.2.1 0), getL, takeL, dropL, TK.isAgg, reduceIte])
    repeat' first | trivial | with_reducible refine And.intro ?_ ?_ | intro c9
    refine (c3 hn).call ?_
    rintro _ ⟨y, b', hb1', hb2', hb3', rfl⟩
    obtain rfl : b' = b := Bool.eq_iff_iff.2 (hb1'.trans hb1.symm)
    obtain rfl : y = x := by cases b'; exact (hb3' rfl).trans (hb3 rfl).symm; exact (hb2' rfl).trans (hb2 rfl).symm
    rw [hg]
    clear hb1 hb2 hb3 hb1' hb2' hb3' cx hg
    cases b' <;> (cbv; try simp only [wp, (show ∀ n : Nat, _ = n from fun n => wf.2.2.2.2.2.2.2.2.2.2.2.2.2.1 (Int.ofNat n)), (show _ = (0 : Nat) from wf.2.2.2.2.2.2.2.2.2.2.2.2.2.1 0), getL, takeL, dropL, TK.isAgg, reduceIte])
    all_goals
      repeat' first | trivial | with_reducible refine And.intro ?_ ?_ | intro c9
      try (refine Later.mk ?_; cbv; try simp only [wp, (show ∀ n : Nat, _ = n from fun n => wf.2.2.2.2.2.2.2.2.2.2.2.2.2.1 (Int.ofNat n)), (show _ = (0 : Nat) from wf.2.2.2.2.2.2.2.2.2.2.2.2.2.1 0), getL, takeL, dropL, TK.isAgg, reduceIte])
      refine hx.call ?_
      rintro _ rfl
      (cbv; try simp only [wp, (show ∀ n : Nat, _ = n from fun n => wf.2.2.2.2.2.2.2.2.2.2.2.2.2.1 (Int.ofNat n)), (show _ = (0 : Nat) from wf.2.2.2.2.2.2.2.2.2.2.2.2.2.1 0), getL, takeL, dropL, TK.isAgg, reduceIte])
      repeat' first | trivial | with_reducible refine And.intro ?_ ?_ | intro c9
      try (refine Later.mk ?_; cbv; try simp only [wp, (show ∀ n : Nat, _ = n from fun n => wf.2.2.2.2.2.2.2.2.2.2.2.2.2.1 (Int.ofNat n)), (show _ = (0 : Nat) from wf.2.2.2.2.2.2.2.2.2.2.2.2.2.1 0), getL, takeL, dropL, TK.isAgg, reduceIte])
      refine (c4 hs).call ?_
      rintro _ rfl
      (cbv; try simp only [wp, (show ∀ n : Nat, _ = n from fun n => wf.2.2.2.2.2.2.2.2.2.2.2.2.2.1 (Int.ofNat n)), (show _ = (0 : Nat) from wf.2.2.2.2.2.2.2.2.2.2.2.2.2.1 0), getL, takeL, dropL, TK.isAgg, reduceIte])
      repeat' first | trivial | with_reducible refine And.intro ?_ ?_ | intro c9
      try (refine Later.mk ?_; cbv; try simp only [wp, (show ∀ n : Nat, _ = n from fun n => wf.2.2.2.2.2.2.2.2.2.2.2.2.2.1 (Int.ofNat n)), (show _ = (0 : Nat) from wf.2.2.2.2.2.2.2.2.2.2.2.2.2.1 0), getL, takeL, dropL, TK.isAgg, reduceIte])
      refine awakeT.call ?_
      rintro _ rfl
      (cbv; try simp only [wp, (show ∀ n : Nat, _ = n from fun n => wf.2.2.2.2.2.2.2.2.2.2.2.2.2.1 (Int.ofNat n)), (show _ = (0 : Nat) from wf.2.2.2.2.2.2.2.2.2.2.2.2.2.1 0), getL, takeL, dropL, TK.isAgg, reduceIte])
      repeat' first | trivial | with_reducible refine And.intro ?_ ?_ | intro c9
      try (refine Later.mk ?_; cbv; try simp only [wp, (show ∀ n : Nat, _ = n from fun n => wf.2.2.2.2.2.2.2.2.2.2.2.2.2.1 (Int.ofNat n)), (show _ = (0 : Nat) from wf.2.2.2.2.2.2.2.2.2.2.2.2.2.1 0), getL, takeL, dropL, TK.isAgg, reduceIte])
      all_goals exact hR _
  · (refine Later.mk ?_; cbv; try simp only [wp, (show ∀ n : Nat, _ = n from fun n => wf.2.2.2.2.2.2.2.2.2.2.2.2.2.1 (Int.ofNat n)), (show _ = (0 : Nat) from wf.2.2.2.2.2.2.2.2.2.2.2.2.2.1 0), getL, takeL, dropL, TK.isAgg, reduceIte])
    exact hR _
end Go.VM
