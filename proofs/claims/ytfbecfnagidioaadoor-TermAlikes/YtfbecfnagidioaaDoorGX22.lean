/- Part of the proof: TA9. -/
import Derived.Test.YtfbecfnagidioaaDoorGX19
import Derived.Test.YtfbecfnagidioaaDoorGX21
namespace Go.VM
open Go.Proofs Go
set_option maxRecDepth 100000
set_option linter.unusedVariables false
set_option linter.unusedSimpArgs false
theorem boolF {Pr : Program} {K : FuncId} {args : List A} {Q : Prop} (h : VFun Pr K args (fun r => ∃ x : Bool, (x = true ↔ Q) ∧ r = .d (.bool x))) : ∃ b : Bool, (b = true ↔ Q) ∧ VFun Pr K args (fun r => r = .d (.bool b)) := by
  refine ⟨@decide Q (Classical.propDecidable Q), by simp, h.mono fun r h => ?_⟩
  obtain ⟨x, h1, rfl⟩ := h
  rw [show x = @decide Q (Classical.propDecidable Q) from Bool.eq_iff_iff.2 (by rw [h1]; simp)]
theorem row5 {G : Nat → Nat → D} {f : Nat → D} (h0 : G 0 0 = f 0) (h1 : G 0 1 = f 1) (h2 : G 0 2 = f 2) (h3 : G 0 3 = f 3) (h4 : G 0 4 = f 4) : Deq (.sl 1 5 G) (.sl 1 5 fun _ j => f j) := .sl _ _ _ _ fun i j hi hj => by
  obtain rfl : i = 0 := by omega
  match j, hj with
  | 0, _ => exact .of_eq h0
  | 1, _ => exact .of_eq h1
  | 2, _ => exact .of_eq h2
  | 3, _ => exact .of_eq h3
  | 4, _ => exact .of_eq h4
set_option maxHeartbeats 40000000 in
theorem lawTermAlikes (a b c : Tm) (p : Nat) (U : Nat → Int) (hp63 : p < 2 ^ 63) : VFun (P ()) 11 [tm a, tm b, tm c, .d (.sl p 1 (isF U))] (fun r => r = .d (.bool true)) := by
  obtain ⟨f, ea⟩ := tm_cols a
  obtain ⟨g, eb⟩ := tm_cols b
  obtain ⟨h, ec⟩ := tm_cols c
  have hh := heavyV 3 (fun i j => if i = 0 then f j else if i = 1 then g j else h j) (fun i => if i = 0 then a else if i = 1 then b else c) (by decide) (fun i hi => by
    match i, hi with
    | 0, _ => exact ea
    | 1, _ => exact eb
    | 2, _ => exact ec)
  rw [ea, eb, ec]
  refine vfunC [9, 11] (Tf := fun {_} _ => fzT [4, 5, 6] (T ())) (fun {_} => tabOk.frz [4, 5, 6]) [] 400 Tryd.func11 rfl (fun {_} => by kernel_rfl) rfl (Nat.le_of_ble_eq_true rfl) @fun ⟨_, _, _, _, _, _, _, _, _, _, _, _, _, _, _, _, _, _, _, _, _, _, _, _, _, _, _, _, _, _, _, _, _, _, _, _, _, _, wp, wf⟩ R hR => ?_
  cbv
  try simp only [wp, (show ∀ n : Nat, _ = n from fun n => wf.2.2.2.2.2.2.2.2.2.2.2.2.2.1 (Int.ofNat n)), getL, takeL, dropL, TK.isAgg, reduceIte]
  replace hR := fun H => hR _ H _ (.d (.bool true)) rfl
  (refine CallW.frz @fun ⟨_, _, _, _, _, _, _, _, _, _, _, _, _, _, _, _, _, _, _, _, _, _, _, _, _, _, _, _, _, _, _, _, _, _, _, _, _, _, wpz, wfz⟩ => ?_; cbv; try simp only [wpz, wp, (show ∀ n : Nat, _ = n from fun n => wfz.2.2.2.2.2.2.2.2.2.2.2.2.2.1 (Int.ofNat n)), getL, takeL, dropL, TK.isAgg, reduceIte])
  repeat' first | (with_reducible refine And.intro ?_ ?_) | intro c9 | trivial | (refine Later.mk ?_; cbv; try simp only [wp, (show ∀ n : Nat, _ = n from fun n => wf.2.2.2.2.2.2.2.2.2.2.2.2.2.1 (Int.ofNat n)), (show _ = (0 : Nat) from wf.2.2.2.2.2.2.2.2.2.2.2.2.2.1 0), getL, takeL, dropL, TK.isAgg, reduceIte])
  refine CallW.args (args' := [.d (.sl 3 5 fun i j => if i = 0 then f j else if i = 1 then g j else h j)]) (fun {_ _} => ⟨?_, trivial⟩) ?_
  · ((try simp only [wf, wfz, nc, nc', Int.toNat_natCast, bsz, ByteArray.size_append, List.length_cons, List.length_nil] at *); (try simp (disch := omega) only [w64, w32, wu8] at *))
    refine .sl _ _ _ _ fun i j hi hj => ?_
    match i, hi with
    | 0, _ =>
      match j, hj with
      | 0, _ | 1, _ | 2, _ | 3, _ | 4, _ => exact .refl _
    | 1, _ =>
      match j, hj with
      | 0, _ | 1, _ | 2, _ | 3, _ | 4, _ => exact .refl _
    | 2, _ =>
      match j, hj with
      | 0, _ | 1, _ | 2, _ | 3, _ | 4, _ => exact .refl _
  refine hh.call ?_
  rintro _ ⟨x, hx, rfl⟩
  cases x <;> (cbv; try simp only [wp, (show ∀ n : Nat, _ = n from fun n => wf.2.2.2.2.2.2.2.2.2.2.2.2.2.1 (Int.ofNat n)), (show _ = (0 : Nat) from wf.2.2.2.2.2.2.2.2.2.2.2.2.2.1 0), getL, takeL, dropL, TK.isAgg, reduceIte])
  rotate_left
  · repeat' first | (with_reducible refine And.intro ?_ ?_) | intro c9 | trivial | (refine Later.mk ?_; cbv; try simp only [wp, (show ∀ n : Nat, _ = n from fun n => wf.2.2.2.2.2.2.2.2.2.2.2.2.2.1 (Int.ofNat n)), (show _ = (0 : Nat) from wf.2.2.2.2.2.2.2.2.2.2.2.2.2.1 0), getL, takeL, dropL, TK.isAgg, reduceIte])
    all_goals exact hR _
  have ha : Light a 400 := hx rfl 0 (by decide)
  have hb : Light b 400 := hx rfl 1 (by decide)
  have hc : Light c 400 := hx rfl 2 (by decide)
  clear hx hh
  repeat' first | (with_reducible refine And.intro ?_ ?_) | intro c9 | trivial | (refine Later.mk ?_; cbv; try simp only [wp, (show ∀ n : Nat, _ = n from fun n => wf.2.2.2.2.2.2.2.2.2.2.2.2.2.1 (Int.ofNat n)), (show _ = (0 : Nat) from wf.2.2.2.2.2.2.2.2.2.2.2.2.2.1 0), getL, takeL, dropL, TK.isAgg, reduceIte])
  all_goals first | exact hR _ | skip
  have hp : p ≤ 400 := (by clear hR; exact (by (try simp only [wf, nc, nc', Int.toNat_natCast, bsz, ByteArray.size_append, List.length_cons, List.length_nil] at *); (try simp (disch := omega) only [w64, w32, wu8] at *); first | done | omega))
  clear c9
  apply bothI (X := CmpT PrfP a b ∧ Light a 100 ∧ Light b 100 ∧ Light c 100)
  case h =>
    intro key
    obtain ⟨sAA, qsAA, cSaa⟩ := boolF (SameT a a ha ha)
    obtain rfl := qsAA.2 (CmpT_refl _ _)
    obtain ⟨aAA, qaAA, cAaa⟩ := boolF (AlikeT a a ha ha)
    obtain rfl := qaAA.2 (CmpT_refl _ _)
    obtain ⟨sAB, qsAB, cSab⟩ := boolF (SameT a b ha hb)
    obtain ⟨sBA, qsBA, cSba⟩ := boolF (SameT b a hb ha)
    obtain rfl : sBA = sAB := Bool.eq_iff_iff.2 (by rw [qsAB, qsBA]; exact ⟨CmpT.symm _ _ _, CmpT.symm _ _ _⟩)
    obtain ⟨sBC, qsBC, cSbc⟩ := boolF (SameT b c hb hc)
    obtain ⟨sAC, qsAC, cSac⟩ := boolF (SameT a c ha hc)
    obtain ⟨aAB, qaAB, cAab⟩ := boolF (AlikeT a b ha hb)
    obtain ⟨aBA, qaBA, cAba⟩ := boolF (AlikeT b a hb ha)
    obtain rfl : aBA = aAB := Bool.eq_iff_iff.2 (by rw [qaAB, qaBA]; exact ⟨CmpT.symm _ _ _, CmpT.symm _ _ _⟩)
    obtain ⟨aBC, qaBC, cAbc⟩ := boolF (AlikeT b c hb hc)
    obtain ⟨aAC, qaAC, cAac⟩ := boolF (AlikeT a c ha hc)
    have f1 : sBA = true → sBC = true → sAC = true := fun h1 h2 => qsAC.2 (CmpT.trans _ a b c (qsAB.1 h1) (qsBC.1 h2))
    have f2 : aBA = true → aBC = true → aAC = true := fun h1 h2 => qaAC.2 (CmpT.trans _ a b c (qaAB.1 h1) (qaBC.1 h2))
    have f3 : sBA = true → aBA = true := fun h1 => qaAB.2 (CmpT.off (fun _ _ _ h => h.elim) a b (qsAB.1 h1))
    have f4 : aBA = true → CmpT PrfP a b := fun h1 => qaAB.1 h1
    clear qsAA qaAA qsAB qsBA qsBC qsAC qaAB qaBA qaBC qaAC
    rw [ea] at cSaa cAaa
    rw [ea, eb] at cSab cSba cAab cAba
    rw [eb, ec] at cSbc cAbc
    rw [ea, ec] at cSac cAac
    have hHc := Heavy c 100 (by decide)
    have hHa := Heavy a 100 (by decide)
    have hHb := Heavy b 100 (by decide)
    rw [ea] at hHa
    rw [eb] at hHb
    rw [ec] at hHc
    cases sBA <;> cases aBA
    all_goals first | exact absurd (f3 rfl) (by decide) | skip
    all_goals
      repeat' first | (with_reducible refine And.intro ?_ ?_) | intro c9 | trivial | (refine Later.mk ?_; cbv; try simp only [wp, (show ∀ n : Nat, _ = n from fun n => wf.2.2.2.2.2.2.2.2.2.2.2.2.2.1 (Int.ofNat n)), (show _ = (0 : Nat) from wf.2.2.2.2.2.2.2.2.2.2.2.2.2.1 0), getL, takeL, dropL, TK.isAgg, reduceIte]) | (refine cSaa.call ?_; rintro _ rfl; (cbv; try simp only [wp, (show ∀ n : Nat, _ = n from fun n => wf.2.2.2.2.2.2.2.2.2.2.2.2.2.1 (Int.ofNat n)), (show _ = (0 : Nat) from wf.2.2.2.2.2.2.2.2.2.2.2.2.2.1 0), getL, takeL, dropL, TK.isAgg, reduceIte])) | (refine cAaa.call ?_; rintro _ rfl; (cbv; try simp only [wp, (show ∀ n : Nat, _ = n from fun n => wf.2.2.2.2.2.2.2.2.2.2.2.2.2.1 (Int.ofNat n)), (show _ = (0 : Nat) from wf.2.2.2.2.2.2.2.2.2.2.2.2.2.1 0), getL, takeL, dropL, TK.isAgg, reduceIte])) | (refine cSab.call ?_; rintro _ rfl; (cbv; try simp only [wp, (show ∀ n : Nat, _ = n from fun n => wf.2.2.2.2.2.2.2.2.2.2.2.2.2.1 (Int.ofNat n)), (show _ = (0 : Nat) from wf.2.2.2.2.2.2.2.2.2.2.2.2.2.1 0), getL, takeL, dropL, TK.isAgg, reduceIte])) | (refine cSba.call ?_; rintro _ rfl; (cbv; try simp only [wp, (show ∀ n : Nat, _ = n from fun n => wf.2.2.2.2.2.2.2.2.2.2.2.2.2.1 (Int.ofNat n)), (show _ = (0 : Nat) from wf.2.2.2.2.2.2.2.2.2.2.2.2.2.1 0), getL, takeL, dropL, TK.isAgg, reduceIte])) | (refine cAab.call ?_; rintro _ rfl; (cbv; try simp only [wp, (show ∀ n : Nat, _ = n from fun n => wf.2.2.2.2.2.2.2.2.2.2.2.2.2.1 (Int.ofNat n)), (show _ = (0 : Nat) from wf.2.2.2.2.2.2.2.2.2.2.2.2.2.1 0), getL, takeL, dropL, TK.isAgg, reduceIte])) | (refine cAba.call ?_; rintro _ rfl; (cbv; try simp only [wp, (show ∀ n : Nat, _ = n from fun n => wf.2.2.2.2.2.2.2.2.2.2.2.2.2.1 (Int.ofNat n)), (show _ = (0 : Nat) from wf.2.2.2.2.2.2.2.2.2.2.2.2.2.1 0), getL, takeL, dropL, TK.isAgg, reduceIte])) | (refine cSbc.call ?_; rintro _ rfl; cases sBC <;> (cbv; try simp only [wp, (show ∀ n : Nat, _ = n from fun n => wf.2.2.2.2.2.2.2.2.2.2.2.2.2.1 (Int.ofNat n)), (show _ = (0 : Nat) from wf.2.2.2.2.2.2.2.2.2.2.2.2.2.1 0), getL, takeL, dropL, TK.isAgg, reduceIte])) | (refine cSbc.call ?_; rintro _ rfl; (cbv; try simp only [wp, (show ∀ n : Nat, _ = n from fun n => wf.2.2.2.2.2.2.2.2.2.2.2.2.2.1 (Int.ofNat n)), (show _ = (0 : Nat) from wf.2.2.2.2.2.2.2.2.2.2.2.2.2.1 0), getL, takeL, dropL, TK.isAgg, reduceIte])) | (refine cSac.call ?_; rintro _ rfl; cases sAC <;> (cbv; try simp only [wp, (show ∀ n : Nat, _ = n from fun n => wf.2.2.2.2.2.2.2.2.2.2.2.2.2.1 (Int.ofNat n)), (show _ = (0 : Nat) from wf.2.2.2.2.2.2.2.2.2.2.2.2.2.1 0), getL, takeL, dropL, TK.isAgg, reduceIte])) | (refine cSac.call ?_; rintro _ rfl; (cbv; try simp only [wp, (show ∀ n : Nat, _ = n from fun n => wf.2.2.2.2.2.2.2.2.2.2.2.2.2.1 (Int.ofNat n)), (show _ = (0 : Nat) from wf.2.2.2.2.2.2.2.2.2.2.2.2.2.1 0), getL, takeL, dropL, TK.isAgg, reduceIte])) | (refine cAbc.call ?_; rintro _ rfl; cases aBC <;> (cbv; try simp only [wp, (show ∀ n : Nat, _ = n from fun n => wf.2.2.2.2.2.2.2.2.2.2.2.2.2.1 (Int.ofNat n)), (show _ = (0 : Nat) from wf.2.2.2.2.2.2.2.2.2.2.2.2.2.1 0), getL, takeL, dropL, TK.isAgg, reduceIte])) | (refine cAbc.call ?_; rintro _ rfl; (cbv; try simp only [wp, (show ∀ n : Nat, _ = n from fun n => wf.2.2.2.2.2.2.2.2.2.2.2.2.2.1 (Int.ofNat n)), (show _ = (0 : Nat) from wf.2.2.2.2.2.2.2.2.2.2.2.2.2.1 0), getL, takeL, dropL, TK.isAgg, reduceIte])) | (refine cAac.call ?_; rintro _ rfl; cases aAC <;> (cbv; try simp only [wp, (show ∀ n : Nat, _ = n from fun n => wf.2.2.2.2.2.2.2.2.2.2.2.2.2.1 (Int.ofNat n)), (show _ = (0 : Nat) from wf.2.2.2.2.2.2.2.2.2.2.2.2.2.1 0), getL, takeL, dropL, TK.isAgg, reduceIte])) | (refine cAac.call ?_; rintro _ rfl; (cbv; try simp only [wp, (show ∀ n : Nat, _ = n from fun n => wf.2.2.2.2.2.2.2.2.2.2.2.2.2.1 (Int.ofNat n)), (show _ = (0 : Nat) from wf.2.2.2.2.2.2.2.2.2.2.2.2.2.1 0), getL, takeL, dropL, TK.isAgg, reduceIte]))
    all_goals clear cSaa cAaa cSab cSba cAab cAba cSbc cSac cAbc cAac f1 f2 f3
    all_goals
      repeat' first | (with_reducible refine And.intro ?_ ?_) | intro c9 | trivial | (refine Later.mk ?_; cbv; try simp only [wp, (show ∀ n : Nat, _ = n from fun n => wf.2.2.2.2.2.2.2.2.2.2.2.2.2.1 (Int.ofNat n)), (show _ = (0 : Nat) from wf.2.2.2.2.2.2.2.2.2.2.2.2.2.1 0), getL, takeL, dropL, TK.isAgg, reduceIte]) | (refine awakeT.call ?_; rintro _ rfl; (cbv; try simp only [wp, (show ∀ n : Nat, _ = n from fun n => wf.2.2.2.2.2.2.2.2.2.2.2.2.2.1 (Int.ofNat n)), (show _ = (0 : Nat) from wf.2.2.2.2.2.2.2.2.2.2.2.2.2.1 0), getL, takeL, dropL, TK.isAgg, reduceIte])) | (refine hHc.call ?_; rintro _ ⟨bx, hlc, rfl⟩; cases bx <;> (cbv; try simp only [wp, (show ∀ n : Nat, _ = n from fun n => wf.2.2.2.2.2.2.2.2.2.2.2.2.2.1 (Int.ofNat n)), (show _ = (0 : Nat) from wf.2.2.2.2.2.2.2.2.2.2.2.2.2.1 0), getL, takeL, dropL, TK.isAgg, reduceIte])) | (refine hHa.call ?_; rintro _ ⟨bx, hla, rfl⟩; cases bx <;> (cbv; try simp only [wp, (show ∀ n : Nat, _ = n from fun n => wf.2.2.2.2.2.2.2.2.2.2.2.2.2.1 (Int.ofNat n)), (show _ = (0 : Nat) from wf.2.2.2.2.2.2.2.2.2.2.2.2.2.1 0), getL, takeL, dropL, TK.isAgg, reduceIte])) | (refine hHb.call ?_; rintro _ ⟨bx, hlb, rfl⟩; cases bx <;> (cbv; try simp only [wp, (show ∀ n : Nat, _ = n from fun n => wf.2.2.2.2.2.2.2.2.2.2.2.2.2.1 (Int.ofNat n)), (show _ = (0 : Nat) from wf.2.2.2.2.2.2.2.2.2.2.2.2.2.1 0), getL, takeL, dropL, TK.isAgg, reduceIte]))
    all_goals first | exact hR _ | skip
    all_goals
      refine CutVW.less (σ' := ⟨[.undef, .undef, .undef, .d (.sl p 1 (isF U)), .iptr (fun x j => getL [f 0, f 1, f 2, f 3, f 4] j .nilp) 0 0 5, .iptr (fun x j => getL [g 0, g 1, g 2, g 3, g 4] j .nilp) 0 0 5, .iptr (fun x j => getL [h 0, h 1, h 2, h 3, h 4] j .nilp) 0 0 5, .undef, .d (.bool false), .undef, .undef, .undef, .undef, .undef, .undef, .undef, .undef, .undef, .undef, .undef, .undef, .undef, .undef, .undef, .undef, .undef, .undef, .undef, .undef, .undef, .undef, .undef, .undef, .undef, .undef, .undef, .undef, .undef, .undef, .undef, .undef, .undef, .undef, .undef, .undef, .undef, .undef, .undef, .undef, .undef, .undef, .undef, .undef, .undef, .undef, .undef, .undef, .undef, .undef, .undef, .undef, .undef, .undef, .undef, .undef, .undef, .undef, .undef, .undef, .undef, .undef, .undef, .undef, .undef, .undef, .undef, .undef, .undef, .undef, .undef, .undef, .undef, .undef, .undef, .undef, .undef, .undef, .undef, .undef, .undef, .undef, .undef, .undef, .undef, .undef, .undef, .undef, .undef, .undef, .undef, .undef, .undef, .undef, .undef, .undef, .undef, .undef, .undef, .undef, .undef, .undef, .undef, .undef, .undef, .undef, .undef, .undef, .undef, .undef, .undef, .undef, .undef, .undef, .undef, .undef, .undef, .undef, .undef, .undef, .undef, .undef, .undef, .undef, .undef, .undef, .undef, .undef, .undef, .undef, .undef, .undef, .undef, .undef, .undef, .undef, .undef, .undef, .undef, .undef, .undef, .undef, .undef, .undef, .undef, .undef, .undef, .undef, .undef, .undef, .undef], []⟩) (key ⟨f4 rfl, hla.1 rfl, hlb.1 rfl, hlc.1 rfl⟩) ?_ rfl
      intro _ _
      ((cbv; try simp only [wf, exD, exL, exT, exB, exA, leLs, leL_d, leL_undef, leL_nils, leA_nils, deq_refl, deq_int, deq_bool, deq_str, and_true, true_and, AObj.iter.injEq, nc, nc']; try simp (disch := omega) only [w64, w32, wu8]); first | done | rfl | omega | (simp; done) | (simp; omega) | skip)
  case g =>
    rintro ⟨hab, la, lb, lc⟩
    have nf : ∀ x y : Tm, Light x 100 → Light y 100 → nodesT (mapT (fFl 1 fun _ => y) x 0) ≤ 10000 := fun x y hx hy => by
      have h1 := nodesT_fl 1 100 (by decide) (fun _ => y) (fun _ _ => hy.1) x 0
      have h2 := hx.1
      omega
    have F1 := FillT 1 (fun _ j => f j) (fun _ => a) (by decide) (fun _ _ => ea) (fun _ _ => by have := la.1; omega) c (by have := lc.1; omega)
    have F2 := FillT 1 (fun _ j => g j) (fun _ => b) (by decide) (fun _ _ => eb) (fun _ _ => by have := lb.1; omega) c (by have := lc.1; omega)
    have F3 := FillT 1 (fun _ j => h j) (fun _ => c) (by decide) (fun _ _ => ec) (fun _ _ => by have := lc.1; omega) a (by have := la.1; omega)
    have F4 := FillT 1 (fun _ j => h j) (fun _ => c) (by decide) (fun _ _ => ec) (fun _ _ => by have := lc.1; omega) b (by have := lb.1; omega)
    have AL : ∀ x y : Tm, nodesT x ≤ 10000 → nodesT y ≤ 10000 → CmpT PrfP x y → VFun (P ()) 22 [tm x, tm y] (fun r => r = .d (.bool true)) := fun x y hx hy hxy => by
      refine (AlikeB x y (by unfold Small; omega) (by unfold Small; omega)).mono fun r hr => ?_
      obtain ⟨z, h1, rfl⟩ := hr
      rw [h1.2 hxy]
    have A1 := AL _ _ (nf c a lc la) (nf c b lc lb) (CmpT.fl 1 (fun _ => a) (fun _ => b) (fun _ _ => hab) c c 0 (Int.le_refl _) (CmpT_refl _ _))
    have A2 := AL _ _ (nf a c la lc) (nf b c lb lc) (CmpT.fl 1 (fun _ => c) (fun _ => c) (fun _ _ => CmpT_refl _ _) a b 0 (Int.le_refl _) hab)
    obtain ⟨q1, e1⟩ := tm_cols (mapT (fFl 1 fun _ => a) c 0)
    obtain ⟨q2, e2⟩ := tm_cols (mapT (fFl 1 fun _ => b) c 0)
    obtain ⟨q3, e3⟩ := tm_cols (mapT (fFl 1 fun _ => c) a 0)
    obtain ⟨q4, e4⟩ := tm_cols (mapT (fFl 1 fun _ => c) b 0)
    rw [ec, e1] at F1
    rw [ec, e2] at F2
    rw [ea, e3] at F3
    rw [eb, e4] at F4
    rw [e1, e2] at A1
    rw [e3, e4] at A2
    clear e1 e2 e3 e4 nf
    apply bothI (X := True)
    case h =>
      intro key2
      (refine cutGo (Tf := fun {_} _ => fzT [4, 5, 6] (T ())) (fun {_} => tabOk.frz [4, 5, 6]) [] 400 (fun {_} => by kernel_rfl) @fun ⟨_, _, _, _, _, _, _, _, _, _, _, _, _, _, _, _, _, _, _, _, _, _, _, _, _, _, _, _, _, _, _, _, _, _, _, _, _, _, wpa, wfa⟩ => ?_)
      (cbv; try simp only [wp, (show ∀ n : Nat, _ = n from fun n => wf.2.2.2.2.2.2.2.2.2.2.2.2.2.1 (Int.ofNat n)), (show _ = (0 : Nat) from wf.2.2.2.2.2.2.2.2.2.2.2.2.2.1 0), wpa, (show ∀ n : Nat, _ = n from fun n => wfa.2.2.2.2.2.2.2.2.2.2.2.2.2.1 (Int.ofNat n)), (show _ = (0 : Nat) from wfa.2.2.2.2.2.2.2.2.2.2.2.2.2.1 0), getL, takeL, dropL, TK.isAgg, reduceIte])
      repeat' first | (with_reducible refine And.intro ?_ ?_) | intro c9 | trivial | (refine Later.mk ?_; cbv; try simp only [wp, (show ∀ n : Nat, _ = n from fun n => wf.2.2.2.2.2.2.2.2.2.2.2.2.2.1 (Int.ofNat n)), (show _ = (0 : Nat) from wf.2.2.2.2.2.2.2.2.2.2.2.2.2.1 0), wpa, (show ∀ n : Nat, _ = n from fun n => wfa.2.2.2.2.2.2.2.2.2.2.2.2.2.1 (Int.ofNat n)), (show _ = (0 : Nat) from wfa.2.2.2.2.2.2.2.2.2.2.2.2.2.1 0), getL, takeL, dropL, TK.isAgg, reduceIte]) | (refine A1.call ?_; rintro _ rfl; (cbv; try simp only [wp, (show ∀ n : Nat, _ = n from fun n => wf.2.2.2.2.2.2.2.2.2.2.2.2.2.1 (Int.ofNat n)), (show _ = (0 : Nat) from wf.2.2.2.2.2.2.2.2.2.2.2.2.2.1 0), wpa, (show ∀ n : Nat, _ = n from fun n => wfa.2.2.2.2.2.2.2.2.2.2.2.2.2.1 (Int.ofNat n)), (show _ = (0 : Nat) from wfa.2.2.2.2.2.2.2.2.2.2.2.2.2.1 0), wpz, (show ∀ n : Nat, _ = n from fun n => wfz.2.2.2.2.2.2.2.2.2.2.2.2.2.1 (Int.ofNat n)), (show _ = (0 : Nat) from wfz.2.2.2.2.2.2.2.2.2.2.2.2.2.1 0), getL, takeL, dropL, TK.isAgg, reduceIte])) | (refine A2.call ?_; rintro _ rfl; (cbv; try simp only [wp, (show ∀ n : Nat, _ = n from fun n => wf.2.2.2.2.2.2.2.2.2.2.2.2.2.1 (Int.ofNat n)), (show _ = (0 : Nat) from wf.2.2.2.2.2.2.2.2.2.2.2.2.2.1 0), wpa, (show ∀ n : Nat, _ = n from fun n => wfa.2.2.2.2.2.2.2.2.2.2.2.2.2.1 (Int.ofNat n)), (show _ = (0 : Nat) from wfa.2.2.2.2.2.2.2.2.2.2.2.2.2.1 0), wpz, (show ∀ n : Nat, _ = n from fun n => wfz.2.2.2.2.2.2.2.2.2.2.2.2.2.1 (Int.ofNat n)), (show _ = (0 : Nat) from wfz.2.2.2.2.2.2.2.2.2.2.2.2.2.1 0), getL, takeL, dropL, TK.isAgg, reduceIte])) | ((refine CallW.frz @fun ⟨_, _, _, _, _, _, _, _, _, _, _, _, _, _, _, _, _, _, _, _, _, _, _, _, _, _, _, _, _, _, _, _, _, _, _, _, _, _, wpz, wfz⟩ => ?_; cbv; try simp only [wpz, wp, (show ∀ n : Nat, _ = n from fun n => wfz.2.2.2.2.2.2.2.2.2.2.2.2.2.1 (Int.ofNat n)), getL, takeL, dropL, TK.isAgg, reduceIte]); (repeat' first | with_reducible refine And.intro ?_ ?_ | intro c9 | trivial); refine CallW.args (args' := [.agg [.d (h 0), .d (h 1), .d (h 2), .d (h 3), .d (h 4)], .d (.sl 1 5 fun _ j => f j)]) (fun {_ _} => ⟨⟨_, rfl, .refl _, .refl _, .refl _, .refl _, .refl _, trivial⟩, (by clear key2 hR; ((try simp only [wf, wfz, wfa, nc, nc', Int.toNat_natCast, bsz, ByteArray.size_append, List.length_cons, List.length_nil] at *); (try simp (disch := omega) only [w64, w32, wu8] at *)); exact row5 rfl rfl rfl rfl rfl), trivial⟩) ?_; refine F1.call ?_; rintro _ rfl; (cbv; try simp only [wp, (show ∀ n : Nat, _ = n from fun n => wf.2.2.2.2.2.2.2.2.2.2.2.2.2.1 (Int.ofNat n)), (show _ = (0 : Nat) from wf.2.2.2.2.2.2.2.2.2.2.2.2.2.1 0), wpa, (show ∀ n : Nat, _ = n from fun n => wfa.2.2.2.2.2.2.2.2.2.2.2.2.2.1 (Int.ofNat n)), (show _ = (0 : Nat) from wfa.2.2.2.2.2.2.2.2.2.2.2.2.2.1 0), wpz, (show ∀ n : Nat, _ = n from fun n => wfz.2.2.2.2.2.2.2.2.2.2.2.2.2.1 (Int.ofNat n)), (show _ = (0 : Nat) from wfz.2.2.2.2.2.2.2.2.2.2.2.2.2.1 0), getL, takeL, dropL, TK.isAgg, reduceIte])) | ((refine CallW.frz @fun ⟨_, _, _, _, _, _, _, _, _, _, _, _, _, _, _, _, _, _, _, _, _, _, _, _, _, _, _, _, _, _, _, _, _, _, _, _, _, _, wpz, wfz⟩ => ?_; cbv; try simp only [wpz, wp, (show ∀ n : Nat, _ = n from fun n => wfz.2.2.2.2.2.2.2.2.2.2.2.2.2.1 (Int.ofNat n)), getL, takeL, dropL, TK.isAgg, reduceIte]); (repeat' first | with_reducible refine And.intro ?_ ?_ | intro c9 | trivial); refine CallW.args (args' := [.agg [.d (h 0), .d (h 1), .d (h 2), .d (h 3), .d (h 4)], .d (.sl 1 5 fun _ j => g j)]) (fun {_ _} => ⟨⟨_, rfl, .refl _, .refl _, .refl _, .refl _, .refl _, trivial⟩, (by clear key2 hR; ((try simp only [wf, wfz, wfa, nc, nc', Int.toNat_natCast, bsz, ByteArray.size_append, List.length_cons, List.length_nil] at *); (try simp (disch := omega) only [w64, w32, wu8] at *)); exact row5 rfl rfl rfl rfl rfl), trivial⟩) ?_; refine F2.call ?_; rintro _ rfl; (cbv; try simp only [wp, (show ∀ n : Nat, _ = n from fun n => wf.2.2.2.2.2.2.2.2.2.2.2.2.2.1 (Int.ofNat n)), (show _ = (0 : Nat) from wf.2.2.2.2.2.2.2.2.2.2.2.2.2.1 0), wpa, (show ∀ n : Nat, _ = n from fun n => wfa.2.2.2.2.2.2.2.2.2.2.2.2.2.1 (Int.ofNat n)), (show _ = (0 : Nat) from wfa.2.2.2.2.2.2.2.2.2.2.2.2.2.1 0), wpz, (show ∀ n : Nat, _ = n from fun n => wfz.2.2.2.2.2.2.2.2.2.2.2.2.2.1 (Int.ofNat n)), (show _ = (0 : Nat) from wfz.2.2.2.2.2.2.2.2.2.2.2.2.2.1 0), getL, takeL, dropL, TK.isAgg, reduceIte])) | ((refine CallW.frz @fun ⟨_, _, _, _, _, _, _, _, _, _, _, _, _, _, _, _, _, _, _, _, _, _, _, _, _, _, _, _, _, _, _, _, _, _, _, _, _, _, wpz, wfz⟩ => ?_; cbv; try simp only [wpz, wp, (show ∀ n : Nat, _ = n from fun n => wfz.2.2.2.2.2.2.2.2.2.2.2.2.2.1 (Int.ofNat n)), getL, takeL, dropL, TK.isAgg, reduceIte]); (repeat' first | with_reducible refine And.intro ?_ ?_ | intro c9 | trivial); refine CallW.args (args' := [.agg [.d (f 0), .d (f 1), .d (f 2), .d (f 3), .d (f 4)], .d (.sl 1 5 fun _ j => h j)]) (fun {_ _} => ⟨⟨_, rfl, .refl _, .refl _, .refl _, .refl _, .refl _, trivial⟩, (by clear key2 hR; ((try simp only [wf, wfz, wfa, nc, nc', Int.toNat_natCast, bsz, ByteArray.size_append, List.length_cons, List.length_nil] at *); (try simp (disch := omega) only [w64, w32, wu8] at *)); exact row5 rfl rfl rfl rfl rfl), trivial⟩) ?_; refine F3.call ?_; rintro _ rfl; (cbv; try simp only [wp, (show ∀ n : Nat, _ = n from fun n => wf.2.2.2.2.2.2.2.2.2.2.2.2.2.1 (Int.ofNat n)), (show _ = (0 : Nat) from wf.2.2.2.2.2.2.2.2.2.2.2.2.2.1 0), wpa, (show ∀ n : Nat, _ = n from fun n => wfa.2.2.2.2.2.2.2.2.2.2.2.2.2.1 (Int.ofNat n)), (show _ = (0 : Nat) from wfa.2.2.2.2.2.2.2.2.2.2.2.2.2.1 0), wpz, (show ∀ n : Nat, _ = n from fun n => wfz.2.2.2.2.2.2.2.2.2.2.2.2.2.1 (Int.ofNat n)), (show _ = (0 : Nat) from wfz.2.2.2.2.2.2.2.2.2.2.2.2.2.1 0), getL, takeL, dropL, TK.isAgg, reduceIte])) | ((refine CallW.frz @fun ⟨_, _, _, _, _, _, _, _, _, _, _, _, _, _, _, _, _, _, _, _, _, _, _, _, _, _, _, _, _, _, _, _, _, _, _, _, _, _, wpz, wfz⟩ => ?_; cbv; try simp only [wpz, wp, (show ∀ n : Nat, _ = n from fun n => wfz.2.2.2.2.2.2.2.2.2.2.2.2.2.1 (Int.ofNat n)), getL, takeL, dropL, TK.isAgg, reduceIte]); (repeat' first | with_reducible refine And.intro ?_ ?_ | intro c9 | trivial); refine CallW.args (args' := [.agg [.d (g 0), .d (g 1), .d (g 2), .d (g 3), .d (g 4)], .d (.sl 1 5 fun _ j => h j)]) (fun {_ _} => ⟨⟨_, rfl, .refl _, .refl _, .refl _, .refl _, .refl _, trivial⟩, (by clear key2 hR; ((try simp only [wf, wfz, wfa, nc, nc', Int.toNat_natCast, bsz, ByteArray.size_append, List.length_cons, List.length_nil] at *); (try simp (disch := omega) only [w64, w32, wu8] at *)); exact row5 rfl rfl rfl rfl rfl), trivial⟩) ?_; refine F4.call ?_; rintro _ rfl; (cbv; try simp only [wp, (show ∀ n : Nat, _ = n from fun n => wf.2.2.2.2.2.2.2.2.2.2.2.2.2.1 (Int.ofNat n)), (show _ = (0 : Nat) from wf.2.2.2.2.2.2.2.2.2.2.2.2.2.1 0), wpa, (show ∀ n : Nat, _ = n from fun n => wfa.2.2.2.2.2.2.2.2.2.2.2.2.2.1 (Int.ofNat n)), (show _ = (0 : Nat) from wfa.2.2.2.2.2.2.2.2.2.2.2.2.2.1 0), wpz, (show ∀ n : Nat, _ = n from fun n => wfz.2.2.2.2.2.2.2.2.2.2.2.2.2.1 (Int.ofNat n)), (show _ = (0 : Nat) from wfz.2.2.2.2.2.2.2.2.2.2.2.2.2.1 0), getL, takeL, dropL, TK.isAgg, reduceIte])) | (fail)
      all_goals
        refine CutVW.less (σ' := ⟨[.undef, .undef, .undef, .d (.sl p 1 (isF U)), .iptr (fun x j => getL [f 0, f 1, f 2, f 3, f 4] j .nilp) 0 0 5, .iptr (fun x j => getL [g 0, g 1, g 2, g 3, g 4] j .nilp) 0 0 5, .iptr (fun x j => getL [h 0, h 1, h 2, h 3, h 4] j .nilp) 0 0 5, .undef, .d (.bool false), .undef, .undef, .undef, .undef, .undef, .undef, .undef, .undef, .undef, .undef, .undef, .undef, .undef, .undef, .undef, .undef, .undef, .undef, .undef, .undef, .undef, .undef, .undef, .undef, .undef, .undef, .undef, .undef, .undef, .undef, .undef, .undef, .undef, .undef, .undef, .undef, .undef, .undef, .undef, .undef, .undef, .undef, .undef, .undef, .undef, .undef, .undef, .undef, .undef, .undef, .undef, .undef, .undef, .undef, .undef, .undef, .undef, .undef, .undef, .undef, .undef, .undef, .undef, .undef, .undef, .undef, .undef, .undef, .undef, .undef, .undef, .undef, .undef, .undef, .undef, .undef, .undef, .undef, .undef, .undef, .undef, .undef, .undef, .undef, .undef, .undef, .undef, .undef, .undef, .undef, .undef, .undef, .undef, .undef, .undef, .undef, .undef, .undef, .undef, .undef, .undef, .undef, .undef, .undef, .undef, .undef, .undef, .undef, .undef, .undef, .undef, .undef, .undef, .undef, .undef, .undef, .undef, .undef, .undef, .undef, .undef, .undef, .undef, .undef, .undef, .undef, .undef, .undef, .undef, .undef, .undef, .undef, .undef, .undef, .undef, .undef, .undef, .undef, .undef, .undef, .undef, .undef, .undef, .undef, .undef, .undef, .undef, .undef, .undef, .undef, .undef], []⟩) (key2 trivial) ?_ rfl
        intro _ _
        ((cbv; try simp only [wf, wfa, exD, exL, exT, exB, exA, leLs, leL_d, leL_undef, leL_nils, leA_nils, deq_refl, deq_int, deq_bool, deq_str, and_true, true_and, AObj.iter.injEq, nc, nc']; try simp (disch := omega) only [w64, w32, wu8]); first | done | rfl | omega | (simp; done) | (simp; omega) | skip)
    case g =>
      intro _
      have P1 := PutT c a p U hp (by have := lc.1; omega) (by have := la.1; omega)
      have P2 := PutT c b p U hp (by have := lc.1; omega) (by have := lb.1; omega)
      rw [ec, ea] at P1
      rw [ec, eb] at P2
      obtain ⟨g3, g4, el⟩ := tm_leaf
      rcases hq : putT p U c a with _ | x
      · have hq2 : putT p U c b = none := (put_none p U c 0 b).1 ((put_none p U c 0 a).2 hq)
        replace P1 := P1.mono (S' := fun r => r = .tup [tm Tm.leaf, .d (.int .i64 30)]) fun r hr => by
          rcases hr with ⟨x, h1, _⟩ | ⟨_, h2⟩
          · rw [hq] at h1; cases h1
          · exact h2
        replace P2 := P2.mono (S' := fun r => r = .tup [tm Tm.leaf, .d (.int .i64 30)]) fun r hr => by
          rcases hr with ⟨x, h1, _⟩ | ⟨_, h2⟩
          · rw [hq2] at h1; cases h1
          · exact h2
        rw [el] at P1 P2
        clear hq hq2 el
        (refine cutGo (Tf := fun {_} _ => fzT [4, 5, 6] (T ())) (fun {_} => tabOk.frz [4, 5, 6]) [] 400 (fun {_} => by kernel_rfl) @fun ⟨_, _, _, _, _, _, _, _, _, _, _, _, _, _, _, _, _, _, _, _, _, _, _, _, _, _, _, _, _, _, _, _, _, _, _, _, _, _, wpb, wfb⟩ => ?_)
        (cbv; try simp only [wp, (show ∀ n : Nat, _ = n from fun n => wf.2.2.2.2.2.2.2.2.2.2.2.2.2.1 (Int.ofNat n)), (show _ = (0 : Nat) from wf.2.2.2.2.2.2.2.2.2.2.2.2.2.1 0), wpb, (show ∀ n : Nat, _ = n from fun n => wfb.2.2.2.2.2.2.2.2.2.2.2.2.2.1 (Int.ofNat n)), (show _ = (0 : Nat) from wfb.2.2.2.2.2.2.2.2.2.2.2.2.2.1 0), getL, takeL, dropL, TK.isAgg, reduceIte])
        repeat' first | (with_reducible refine And.intro ?_ ?_) | intro c9 | trivial | (refine Later.mk ?_; cbv; try simp only [wp, (show ∀ n : Nat, _ = n from fun n => wf.2.2.2.2.2.2.2.2.2.2.2.2.2.1 (Int.ofNat n)), (show _ = (0 : Nat) from wf.2.2.2.2.2.2.2.2.2.2.2.2.2.1 0), wpb, (show ∀ n : Nat, _ = n from fun n => wfb.2.2.2.2.2.2.2.2.2.2.2.2.2.1 (Int.ofNat n)), (show _ = (0 : Nat) from wfb.2.2.2.2.2.2.2.2.2.2.2.2.2.1 0), getL, takeL, dropL, TK.isAgg, reduceIte]) | (refine P1.call ?_; rintro _ rfl; (cbv; try simp only [wp, (show ∀ n : Nat, _ = n from fun n => wf.2.2.2.2.2.2.2.2.2.2.2.2.2.1 (Int.ofNat n)), (show _ = (0 : Nat) from wf.2.2.2.2.2.2.2.2.2.2.2.2.2.1 0), wpb, (show ∀ n : Nat, _ = n from fun n => wfb.2.2.2.2.2.2.2.2.2.2.2.2.2.1 (Int.ofNat n)), (show _ = (0 : Nat) from wfb.2.2.2.2.2.2.2.2.2.2.2.2.2.1 0), getL, takeL, dropL, TK.isAgg, reduceIte])) | (refine P2.call ?_; rintro _ rfl; (cbv; try simp only [wp, (show ∀ n : Nat, _ = n from fun n => wf.2.2.2.2.2.2.2.2.2.2.2.2.2.1 (Int.ofNat n)), (show _ = (0 : Nat) from wf.2.2.2.2.2.2.2.2.2.2.2.2.2.1 0), wpb, (show ∀ n : Nat, _ = n from fun n => wfb.2.2.2.2.2.2.2.2.2.2.2.2.2.1 (Int.ofNat n)), (show _ = (0 : Nat) from wfb.2.2.2.2.2.2.2.2.2.2.2.2.2.1 0), getL, takeL, dropL, TK.isAgg, reduceIte])) | (refine awakeT.call ?_; rintro _ rfl; (cbv; try simp only [wp, (show ∀ n : Nat, _ = n from fun n => wf.2.2.2.2.2.2.2.2.2.2.2.2.2.1 (Int.ofNat n)), (show _ = (0 : Nat) from wf.2.2.2.2.2.2.2.2.2.2.2.2.2.1 0), wpb, (show ∀ n : Nat, _ = n from fun n => wfb.2.2.2.2.2.2.2.2.2.2.2.2.2.1 (Int.ofNat n)), (show _ = (0 : Nat) from wfb.2.2.2.2.2.2.2.2.2.2.2.2.2.1 0), getL, takeL, dropL, TK.isAgg, reduceIte])) | exact hR _ | (fail)
      · have hy : ∃ y, putT p U c b = some y := by
          rcases h2 : putT p U c b with _ | y
          · have h3 := (put_none p U c 0 a).1 ((put_none p U c 0 b).2 h2)
            rw [hq] at h3; cases h3
          · exact ⟨y, rfl⟩
        obtain ⟨y, hq2⟩ := hy
        replace P1 := P1.mono (S' := fun r => r = .tup [tm x, .d (.int .i64 0)]) fun r hr => by
          rcases hr with ⟨x', h1, h2⟩ | ⟨h1, _⟩
          · rw [hq] at h1; cases h1; exact h2
          · rw [hq] at h1; cases h1
        replace P2 := P2.mono (S' := fun r => r = .tup [tm y, .d (.int .i64 0)]) fun r hr => by
          rcases hr with ⟨x', h1, h2⟩ | ⟨h1, _⟩
          · rw [hq2] at h1; cases h1; exact h2
          · rw [hq2] at h1; cases h1
        have nx := put_size _ _ _ _ _ hq
        have ny := put_size _ _ _ _ _ hq2
        have n1 := la.1
        have n2 := lb.1
        have n3 := lc.1
        have A3 := AL x y (by omega) (by omega) (CmpT.put p U c a b x y hq hq2 hab)
        obtain ⟨fx, ex⟩ := tm_cols x
        obtain ⟨fy, ey⟩ := tm_cols y
        rw [ex] at P1
        rw [ey] at P2
        rw [ex, ey] at A3
        clear hq hq2 el ex ey nx ny
        (refine cutGo (Tf := fun {_} _ => fzT [4, 5, 6] (T ())) (fun {_} => tabOk.frz [4, 5, 6]) [] 400 (fun {_} => by kernel_rfl) @fun ⟨_, _, _, _, _, _, _, _, _, _, _, _, _, _, _, _, _, _, _, _, _, _, _, _, _, _, _, _, _, _, _, _, _, _, _, _, _, _, wpb, wfb⟩ => ?_)
        (cbv; try simp only [wp, (show ∀ n : Nat, _ = n from fun n => wf.2.2.2.2.2.2.2.2.2.2.2.2.2.1 (Int.ofNat n)), (show _ = (0 : Nat) from wf.2.2.2.2.2.2.2.2.2.2.2.2.2.1 0), wpb, (show ∀ n : Nat, _ = n from fun n => wfb.2.2.2.2.2.2.2.2.2.2.2.2.2.1 (Int.ofNat n)), (show _ = (0 : Nat) from wfb.2.2.2.2.2.2.2.2.2.2.2.2.2.1 0), getL, takeL, dropL, TK.isAgg, reduceIte])
        repeat' first | (with_reducible refine And.intro ?_ ?_) | intro c9 | trivial | (refine Later.mk ?_; cbv; try simp only [wp, (show ∀ n : Nat, _ = n from fun n => wf.2.2.2.2.2.2.2.2.2.2.2.2.2.1 (Int.ofNat n)), (show _ = (0 : Nat) from wf.2.2.2.2.2.2.2.2.2.2.2.2.2.1 0), wpb, (show ∀ n : Nat, _ = n from fun n => wfb.2.2.2.2.2.2.2.2.2.2.2.2.2.1 (Int.ofNat n)), (show _ = (0 : Nat) from wfb.2.2.2.2.2.2.2.2.2.2.2.2.2.1 0), getL, takeL, dropL, TK.isAgg, reduceIte]) | (refine P1.call ?_; rintro _ rfl; (cbv; try simp only [wp, (show ∀ n : Nat, _ = n from fun n => wf.2.2.2.2.2.2.2.2.2.2.2.2.2.1 (Int.ofNat n)), (show _ = (0 : Nat) from wf.2.2.2.2.2.2.2.2.2.2.2.2.2.1 0), wpb, (show ∀ n : Nat, _ = n from fun n => wfb.2.2.2.2.2.2.2.2.2.2.2.2.2.1 (Int.ofNat n)), (show _ = (0 : Nat) from wfb.2.2.2.2.2.2.2.2.2.2.2.2.2.1 0), getL, takeL, dropL, TK.isAgg, reduceIte])) | (refine P2.call ?_; rintro _ rfl; (cbv; try simp only [wp, (show ∀ n : Nat, _ = n from fun n => wf.2.2.2.2.2.2.2.2.2.2.2.2.2.1 (Int.ofNat n)), (show _ = (0 : Nat) from wf.2.2.2.2.2.2.2.2.2.2.2.2.2.1 0), wpb, (show ∀ n : Nat, _ = n from fun n => wfb.2.2.2.2.2.2.2.2.2.2.2.2.2.1 (Int.ofNat n)), (show _ = (0 : Nat) from wfb.2.2.2.2.2.2.2.2.2.2.2.2.2.1 0), getL, takeL, dropL, TK.isAgg, reduceIte])) | (refine A3.call ?_; rintro _ rfl; (cbv; try simp only [wp, (show ∀ n : Nat, _ = n from fun n => wf.2.2.2.2.2.2.2.2.2.2.2.2.2.1 (Int.ofNat n)), (show _ = (0 : Nat) from wf.2.2.2.2.2.2.2.2.2.2.2.2.2.1 0), wpb, (show ∀ n : Nat, _ = n from fun n => wfb.2.2.2.2.2.2.2.2.2.2.2.2.2.1 (Int.ofNat n)), (show _ = (0 : Nat) from wfb.2.2.2.2.2.2.2.2.2.2.2.2.2.1 0), getL, takeL, dropL, TK.isAgg, reduceIte])) | (refine awakeT.call ?_; rintro _ rfl; (cbv; try simp only [wp, (show ∀ n : Nat, _ = n from fun n => wf.2.2.2.2.2.2.2.2.2.2.2.2.2.1 (Int.ofNat n)), (show _ = (0 : Nat) from wf.2.2.2.2.2.2.2.2.2.2.2.2.2.1 0), wpb, (show ∀ n : Nat, _ = n from fun n => wfb.2.2.2.2.2.2.2.2.2.2.2.2.2.1 (Int.ofNat n)), (show _ = (0 : Nat) from wfb.2.2.2.2.2.2.2.2.2.2.2.2.2.1 0), getL, takeL, dropL, TK.isAgg, reduceIte])) | exact hR _ | (fail)
end Go.VM
