/- Part of the proof: TT20, TT22. -/
import Derived.Test.YtfbecfnagidioaaGreatDoorGX15
namespace Go.VM
open Go.Proofs Go
set_option maxRecDepth 100000
set_option linter.unusedVariables false
set_option linter.unusedSimpArgs false
theorem RShift (frm by' : Int) (t : Tm) (hs : 4 * nodesT t ≤ 4194304) : VFun (P ()) 123 [tm t, .d (.int .i64 by'), .d (.int .i64 frm)] (fun r => ∃ x : Tm, ∃ b : Bool, (b = true ↔ (0 ≤ frm ∧ frm ≤ 2147483648 ∧ -2147483648 ≤ by' ∧ by' ≤ 2147483648) ∧ OkT by' frm t 0) ∧ (b = true → x = mapT (fSh by' frm) t 0) ∧ (b = false → x = Tm.leaf) ∧ r = .tup [tm x, .d (.bool b)]) := by
  have hw := fun h3 h4 => rshift frm by' h3 h4 t 0 (by decide) (by omega)
  obtain ⟨g3, g4, el⟩ := tm_leaf
  refine VFun.mono (S := fun r => ∃ b : Bool, (b = true ↔ (0 ≤ frm ∧ frm ≤ 2147483648 ∧ -2147483648 ≤ by' ∧ by' ≤ 2147483648) ∧ OkT by' frm t 0) ∧ r = .tup [if b then tm (mapT (fSh by' frm) t 0) else tm Tm.leaf, .d (.bool b)]) ?_ fun r h => by
    obtain ⟨b, h1, rfl⟩ := h
    cases b
    · exact ⟨_, false, h1, fun h => (by cases h), fun _ => rfl, rfl⟩
    · exact ⟨_, true, h1, fun _ => rfl, fun h => (by cases h), rfl⟩
  rw [el] at hw ⊢
  unfold tm at hw ⊢
  obtain ⟨f, hf⟩ : ∃ f, f = tmD t := ⟨_, rfl⟩
  obtain ⟨g, hg⟩ : ∃ g, g = tmD (mapT (fSh by' frm) t 0) := ⟨_, rfl⟩
  rw [← hf, ← hg] at hw
  rw [← hf, ← hg]
  clear hf hg el
  refine vfunL (Tf := fun {_} _ => fzT [3] (T ())) (fun {_} => tabOk.frz [3]) [] 400 Tryz.func123 rfl (fun {_} => by kernel_rfl) rfl (Nat.le_of_ble_eq_true rfl) @fun ⟨_, _, _, _, _, _, _, _, _, _, _, _, _, _, _, _, _, _, _, _, _, _, _, _, _, _, _, _, _, _, _, _, _, _, _, _, _, _, wp, wf⟩ R hR => ?_
  cbv
  try simp only [wp, (show ∀ n : Nat, _ = n from fun n => wf.2.2.2.2.2.2.2.2.2.2.2.2.2.1 (Int.ofNat n)), getL, takeL, dropL, TK.isAgg, reduceIte]
  repeat' first | (with_reducible refine And.intro ?_ ?_) | intro c9 | trivial | (refine Later.mk ?_; cbv; try simp only [wp, (show ∀ n : Nat, _ = n from fun n => wf.2.2.2.2.2.2.2.2.2.2.2.2.2.1 (Int.ofNat n)), (show _ = (0 : Nat) from wf.2.2.2.2.2.2.2.2.2.2.2.2.2.1 0), getL, takeL, dropL, TK.isAgg, reduceIte])
  all_goals first
    | exact hR _ _ _ (.tup2 (.z5 g3 g4 _ _ _) (.d _)) ⟨false, iffF fun h => (by have h := h.1; exact absurd h (by (try simp only [wf, nc, nc', Int.toNat_natCast, bsz, ByteArray.size_append, List.length_cons, List.length_nil] at *); (try simp (disch := omega) only [w64, w32, wu8] at *); first | done | omega)), rfl⟩
    | skip
  have hr : (0 ≤ frm ∧ frm ≤ 2147483648 ∧ -2147483648 ≤ by' ∧ by' ≤ 2147483648) := (by (try simp only [wf, nc, nc', Int.toNat_natCast, bsz, ByteArray.size_append, List.length_cons, List.length_nil] at *); (try simp (disch := omega) only [w64, w32, wu8] at *); first | done | omega)
  refine (hw (by (try simp only [wf, nc, nc', Int.toNat_natCast, bsz, ByteArray.size_append, List.length_cons, List.length_nil] at *); (try simp (disch := omega) only [w64, w32, wu8] at *); first | done | omega) (by (try simp only [wf, nc, nc', Int.toNat_natCast, bsz, ByteArray.size_append, List.length_cons, List.length_nil] at *); (try simp (disch := omega) only [w64, w32, wu8] at *); first | done | omega)).call ?_
  rintro _ ⟨b, hb, rfl⟩
  cases b
  · (cbv; try simp only [wp, (show ∀ n : Nat, _ = n from fun n => wf.2.2.2.2.2.2.2.2.2.2.2.2.2.1 (Int.ofNat n)), (show _ = (0 : Nat) from wf.2.2.2.2.2.2.2.2.2.2.2.2.2.1 0), getL, takeL, dropL, TK.isAgg, reduceIte])
    repeat' first | (with_reducible refine And.intro ?_ ?_) | intro c9 | trivial | (refine Later.mk ?_; cbv; try simp only [wp, (show ∀ n : Nat, _ = n from fun n => wf.2.2.2.2.2.2.2.2.2.2.2.2.2.1 (Int.ofNat n)), (show _ = (0 : Nat) from wf.2.2.2.2.2.2.2.2.2.2.2.2.2.1 0), getL, takeL, dropL, TK.isAgg, reduceIte])
    all_goals exact hR _ _ _ (.tup2 (.same5 _ _ _ _ _) (.d _)) ⟨false, ⟨fun h => (by cases h), fun h => hb.2 h.2⟩, rfl⟩
  · (cbv; try simp only [wp, (show ∀ n : Nat, _ = n from fun n => wf.2.2.2.2.2.2.2.2.2.2.2.2.2.1 (Int.ofNat n)), (show _ = (0 : Nat) from wf.2.2.2.2.2.2.2.2.2.2.2.2.2.1 0), getL, takeL, dropL, TK.isAgg, reduceIte])
    repeat' first | (with_reducible refine And.intro ?_ ?_) | intro c9 | trivial | (refine Later.mk ?_; cbv; try simp only [wp, (show ∀ n : Nat, _ = n from fun n => wf.2.2.2.2.2.2.2.2.2.2.2.2.2.1 (Int.ofNat n)), (show _ = (0 : Nat) from wf.2.2.2.2.2.2.2.2.2.2.2.2.2.1 0), getL, takeL, dropL, TK.isAgg, reduceIte])
    all_goals exact hR _ _ _ (.tup2 (.same5 _ _ _ _ _) (.d _)) ⟨true, iffT ⟨hr, hb.1 rfl⟩, rfl⟩
end Go.VM

namespace Go.VM
open Go.Proofs Go
set_option maxRecDepth 100000
set_option linter.unusedVariables false
set_option linter.unusedSimpArgs false
def opT : Tm → Int
  | .mk op n s k C N W Q m ok L => op
/-- all variables in the parts are at most a million -/
def NearL : Tm → Prop
  | .mk op n s k C N W Q m ok L => ∀ i : Fin m, NearT 1000000 (L i)
theorem NearT_L (t : Tm) : NearT 1000000 t ↔ (opT t = 1 → numT t ≤ 1000000) ∧ NearL t := by
  cases t with | mk op n s k C N W Q m ok L => simp only [NearT, opT, numT, NearL]
theorem tmD_01 (t : Tm) : tmD t 0 = .int .i64 (opT t) ∧ tmD t 1 = .int .i64 (numT t) := by
  cases t with | mk op n s k C N W Q m ok L => simp only [tmD, opT, numT, and_self]
theorem nearV1 (m : Nat) (G : Nat → Nat → D) (o nn : Nat → Int) (F : Nat → Prop) (hm : m < 2 ^ 30) (h0 : ∀ i, i < m → G i 0 = .int .i64 (o i)) (h1 : ∀ i, i < m → G i 1 = .int .i64 (nn i))
    (ih : ∀ i, i < m → VFun (P ()) 18 [.d (G i 4)] (fun r => ∃ b : Bool, (b = true ↔ F i) ∧ r = .d (.bool b))) : VFun (P ()) 18 [.d (.sl m 5 G)] (fun r => ∃ b : Bool, (b = true ↔ ∀ i, i < m → (o i = 1 → nn i ≤ 1000000) ∧ F i) ∧ r = .d (.bool b)) := by
  refine vfunL (Tf := fun {_} _ => fzT [] (T ())) (fun {_} => tabOk.frz []) [] 400 Tryz.func18 rfl (fun {_} => by kernel_rfl) rfl (Nat.le_of_ble_eq_true rfl) @fun ⟨_, _, _, _, _, _, _, _, _, _, _, _, _, _, _, _, _, _, _, _, _, _, _, _, _, _, _, _, _, _, _, _, _, _, _, _, _, _, wp, wf⟩ R hR => ?_
  cbv
  try simp only [wp, (show ∀ n : Nat, _ = n from fun n => wf.2.2.2.2.2.2.2.2.2.2.2.2.2.1 (Int.ofNat n)), getL, takeL, dropL, TK.isAgg, reduceIte]
  replace hR := fun b H h => hR _ H (.d (.bool b)) (.d _) ⟨b, h, rfl⟩
  refine loopL (Tf := fun {_} _ => fzT [] (T ())) (fun {_} => tabOk.frz []) [] 400 (fun i : Nat => ⟨[.d (.sl m 5 G), .undef, .d (.bool false), .d (.int .i64 i), .undef, .undef, .undef, .undef, .undef, .undef, .undef, .undef, .undef, .undef, .undef, .undef, .undef, .undef, .undef, .undef, .undef, .undef, .undef, .undef, .undef, .undef, .undef, .undef, .undef, .undef, .undef, .undef, .undef], []⟩) (fun i => m - i) (fun i => i ≤ m ∧ ∀ j, j < i → (o j = 1 → nn j ≤ 1000000) ∧ F j) 0 ⟨Nat.zero_le _, fun j hj => absurd hj (Nat.not_lt_zero _)⟩ (fun {_} => by kernel_rfl) ?_ (fun i => by kernel_rfl) @fun ⟨_, _, _, _, _, _, _, _, _, _, _, _, _, _, _, _, _, _, _, _, _, _, _, _, _, _, _, _, _, _, _, _, _, _, _, _, _, _, wpa, wfa⟩ i Bk hi hBk => ?_
  · ((cbv; try simp only [wf, exD, exL, exT, exB, exA, leLs, leL_d, leL_undef, leL_nils, leA_nils, deq_refl, deq_int, deq_bool, deq_str, and_true, true_and, AObj.iter.injEq, nc, nc']; try simp (disch := omega) only [w64, w32, wu8]); first | done | rfl | omega | (simp; done) | (simp; omega) | skip)
  obtain ⟨i1, i2⟩ := hi
  (cbv; try simp only [wp, (show ∀ n : Nat, _ = n from fun n => wf.2.2.2.2.2.2.2.2.2.2.2.2.2.1 (Int.ofNat n)), (show _ = (0 : Nat) from wf.2.2.2.2.2.2.2.2.2.2.2.2.2.1 0), wpa, (show ∀ n : Nat, _ = n from fun n => wfa.2.2.2.2.2.2.2.2.2.2.2.2.2.1 (Int.ofNat n)), (show _ = (0 : Nat) from wfa.2.2.2.2.2.2.2.2.2.2.2.2.2.1 0), getL, takeL, dropL, TK.isAgg, reduceIte])
  refine ⟨fun e => ?_, fun e => ?_⟩
  · have e : i < m := (by (try simp only [wf, wfa, nc, nc', Int.toNat_natCast, bsz, ByteArray.size_append, List.length_cons, List.length_nil] at *); (try simp (disch := omega) only [w64, w32, wu8] at *); first | done | omega)
    have hi := ih i e
    have g0 := h0 i e
    have g1 := h1 i e
    (refine Later.mk ?_; cbv; try simp only [wp, (show ∀ n : Nat, _ = n from fun n => wf.2.2.2.2.2.2.2.2.2.2.2.2.2.1 (Int.ofNat n)), (show _ = (0 : Nat) from wf.2.2.2.2.2.2.2.2.2.2.2.2.2.1 0), wpa, (show ∀ n : Nat, _ = n from fun n => wfa.2.2.2.2.2.2.2.2.2.2.2.2.2.1 (Int.ofNat n)), (show _ = (0 : Nat) from wfa.2.2.2.2.2.2.2.2.2.2.2.2.2.1 0), getL, takeL, dropL, TK.isAgg, reduceIte])
    repeat' first | (with_reducible refine And.intro ?_ ?_) | intro c9 | trivial | (refine Later.mk ?_; cbv; try simp only [wp, (show ∀ n : Nat, _ = n from fun n => wf.2.2.2.2.2.2.2.2.2.2.2.2.2.1 (Int.ofNat n)), (show _ = (0 : Nat) from wf.2.2.2.2.2.2.2.2.2.2.2.2.2.1 0), wpa, (show ∀ n : Nat, _ = n from fun n => wfa.2.2.2.2.2.2.2.2.2.2.2.2.2.1 (Int.ofNat n)), (show _ = (0 : Nat) from wfa.2.2.2.2.2.2.2.2.2.2.2.2.2.1 0), getL, takeL, dropL, TK.isAgg, reduceIte]) | (rw [g0]; (cbv; try simp only [wp, (show ∀ n : Nat, _ = n from fun n => wf.2.2.2.2.2.2.2.2.2.2.2.2.2.1 (Int.ofNat n)), (show _ = (0 : Nat) from wf.2.2.2.2.2.2.2.2.2.2.2.2.2.1 0), wpa, (show ∀ n : Nat, _ = n from fun n => wfa.2.2.2.2.2.2.2.2.2.2.2.2.2.1 (Int.ofNat n)), (show _ = (0 : Nat) from wfa.2.2.2.2.2.2.2.2.2.2.2.2.2.1 0), getL, takeL, dropL, TK.isAgg, reduceIte])) | (rw [g1]; (cbv; try simp only [wp, (show ∀ n : Nat, _ = n from fun n => wf.2.2.2.2.2.2.2.2.2.2.2.2.2.1 (Int.ofNat n)), (show _ = (0 : Nat) from wf.2.2.2.2.2.2.2.2.2.2.2.2.2.1 0), wpa, (show ∀ n : Nat, _ = n from fun n => wfa.2.2.2.2.2.2.2.2.2.2.2.2.2.1 (Int.ofNat n)), (show _ = (0 : Nat) from wfa.2.2.2.2.2.2.2.2.2.2.2.2.2.1 0), getL, takeL, dropL, TK.isAgg, reduceIte])) | (refine hi.call ?_; rintro _ ⟨b, hb, rfl⟩; cases b <;> (cbv; try simp only [wp, (show ∀ n : Nat, _ = n from fun n => wf.2.2.2.2.2.2.2.2.2.2.2.2.2.1 (Int.ofNat n)), (show _ = (0 : Nat) from wf.2.2.2.2.2.2.2.2.2.2.2.2.2.1 0), wpa, (show ∀ n : Nat, _ = n from fun n => wfa.2.2.2.2.2.2.2.2.2.2.2.2.2.1 (Int.ofNat n)), (show _ = (0 : Nat) from wfa.2.2.2.2.2.2.2.2.2.2.2.2.2.1 0), getL, takeL, dropL, TK.isAgg, reduceIte]))
    all_goals first
      | exact Nat.zero_le _
      | exact (by (try simp only [wf, wfa, nc, nc', Int.toNat_natCast, bsz, ByteArray.size_append, List.length_cons, List.length_nil] at *); (try simp (disch := omega) only [w64, w32, wu8] at *); first | done | omega)
      | (refine hBk (i + 1) _ (by omega) ⟨by omega, fun j hj => ?_⟩ ?_
         · by_cases ej : j = i
           · subst ej; exact ⟨by clear hBk hR; intro h; exact (by (try simp only [wf, wfa, nc, nc', Int.toNat_natCast, bsz, ByteArray.size_append, List.length_cons, List.length_nil] at *); (try simp (disch := omega) only [w64, w32, wu8] at *); first | done | omega), hb.1 rfl⟩
           · exact i2 j (by omega)
         · ((cbv; try simp only [wf, wfa, exD, exL, exT, exB, exA, leLs, leL_d, leL_undef, leL_nils, leA_nils, deq_refl, deq_int, deq_bool, deq_str, and_true, true_and, AObj.iter.injEq, nc, nc']; try simp (disch := omega) only [w64, w32, wu8]); first | done | rfl | omega | (simp; done) | (simp; omega) | skip))
      | exact hR false _ (iffF fun h => by have h2 := (h i e).2; exact absurd (hb.2 h2) (by simp))
      | exact hR false _ (iffF fun h => by have h2 := (h i e).1; clear hR hBk; exact absurd (h2 (by (try simp only [wf, wfa, nc, nc', Int.toNat_natCast, bsz, ByteArray.size_append, List.length_cons, List.length_nil] at *); (try simp (disch := omega) only [w64, w32, wu8] at *); first | done | omega)) (by (try simp only [wf, wfa, nc, nc', Int.toNat_natCast, bsz, ByteArray.size_append, List.length_cons, List.length_nil] at *); (try simp (disch := omega) only [w64, w32, wu8] at *); first | done | omega))
  · obtain rfl : i = m := (by (try simp only [wf, wfa, nc, nc', Int.toNat_natCast, bsz, ByteArray.size_append, List.length_cons, List.length_nil] at *); (try simp (disch := omega) only [w64, w32, wu8] at *); first | done | omega)
    (refine Later.mk ?_; cbv; try simp only [wp, (show ∀ n : Nat, _ = n from fun n => wf.2.2.2.2.2.2.2.2.2.2.2.2.2.1 (Int.ofNat n)), (show _ = (0 : Nat) from wf.2.2.2.2.2.2.2.2.2.2.2.2.2.1 0), wpa, (show ∀ n : Nat, _ = n from fun n => wfa.2.2.2.2.2.2.2.2.2.2.2.2.2.1 (Int.ofNat n)), (show _ = (0 : Nat) from wfa.2.2.2.2.2.2.2.2.2.2.2.2.2.1 0), getL, takeL, dropL, TK.isAgg, reduceIte])
    exact hR true _ (iffT i2)
theorem nearL (t : Tm) : Small t → VFun (P ()) 18 [.d (tmD t 4)] (fun r => ∃ b : Bool, (b = true ↔ NearL t) ∧ r = .d (.bool b)) := by
  refine Tm.walk (P := fun t => Small t → VFun (P ()) 18 [.d (tmD t 4)] (fun r => ∃ b : Bool, (b = true ↔ NearL t) ∧ r = .d (.bool b))) ?_ t
  intro op n s k C N W Q m ok K G hG e ih hs
  obtain ⟨h1, h2, h3⟩ := hs.kid
  have e4 : tmD (.nd op n s k C N W Q m ok K) 4 = .sl m 5 G := by
    unfold tm at e
    injection e with e
    simp only [List.cons.injEq, A.d.injEq] at e
    exact e.2.2.2.2.1
  have g : ∀ i, i < m → G i 0 = tmD (K i) 0 ∧ G i 1 = tmD (K i) 1 ∧ G i 4 = tmD (K i) 4 := fun i hi => by
    have := hG i hi
    unfold tm kid at this
    injection this with this
    simp only [List.cons.injEq, A.d.injEq] at this
    exact ⟨this.1.symm, this.2.1.symm, this.2.2.2.2.1.symm⟩
  rw [e4]
  refine (nearV1 m G (fun i => opT (K i)) (fun i => numT (K i)) (fun i => NearL (K i)) (by omega) (fun i hi => by rw [(g i hi).1, (tmD_01 (K i)).1]) (fun i hi => by rw [(g i hi).2.1, (tmD_01 (K i)).2]) (fun i hi => by rw [(g i hi).2.2]; exact ih i hi (h3 i hi))).mono ?_
  rintro _ ⟨b, hb, rfl⟩
  refine ⟨b, hb.trans ?_, rfl⟩
  have : NearL (.nd op n s k C N W Q m ok K) ↔ ∀ i, i < m → NearT 1000000 (K i) := by
    have e : NearL (.nd op n s k C N W Q m ok K) ↔ ∀ i : Fin m, NearT 1000000 (K i) := by simp only [Tm.nd, NearL]
    rw [e]
    exact ⟨fun h i hi => h ⟨i, hi⟩, fun h i => h i i.2⟩
  rw [this]
  exact ⟨fun h i hi => (NearT_L _).2 (h i hi), fun h i hi => (NearT_L _).1 (h i hi)⟩
/-- a list of terms -/
theorem nearV (m : Nat) (G : Nat → Nat → D) (K : Nat → Tm) (hm : m < 2 ^ 30) (hG : ∀ i, i < m → tm (K i) = kid G i) (hs : ∀ i, i < m → Small (K i)) : VFun (P ()) 18 [.d (.sl m 5 G)] (fun r => ∃ b : Bool, (b = true ↔ ∀ i, i < m → NearT 1000000 (K i)) ∧ r = .d (.bool b)) := by
  have g : ∀ i, i < m → G i 0 = tmD (K i) 0 ∧ G i 1 = tmD (K i) 1 ∧ G i 4 = tmD (K i) 4 := fun i hi => by
    have := hG i hi
    unfold tm kid at this
    injection this with this
    simp only [List.cons.injEq, A.d.injEq] at this
    exact ⟨this.1.symm, this.2.1.symm, this.2.2.2.2.1.symm⟩
  refine (nearV1 m G (fun i => opT (K i)) (fun i => numT (K i)) (fun i => NearL (K i)) (by omega) (fun i hi => by rw [(g i hi).1, (tmD_01 (K i)).1]) (fun i hi => by rw [(g i hi).2.1, (tmD_01 (K i)).2]) (fun i hi => by rw [(g i hi).2.2]; exact nearL (K i) (hs i hi))).mono ?_
  rintro _ ⟨b, hb, rfl⟩
  exact ⟨b, hb.trans ⟨fun h i hi => (NearT_L _).2 (h i hi), fun h i hi => (NearT_L _).1 (h i hi)⟩, rfl⟩
end Go.VM
