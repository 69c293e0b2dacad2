/- Part of the proof: TT1, TT2. -/
import Derived.Test.YtfbecfnagidioaaGreatDoorGX7
import Derived.Test.YtfbecfnagidioaaGreatDoorGV5
namespace Go.VM
open Go.Proofs Go
set_option maxRecDepth 100000
set_option linter.unusedVariables false
set_option linter.unusedSimpArgs false
/-- how the sum of what is counted goes on -/
def CntS (T A : Nat) (f : Nat → Nat) (most i x : Nat) : Prop := (x ≤ most → x = A + sumF f i) ∧ (most < x → most < T) ∧ x ≤ 2 * most + 2
theorem CntS.next {T A : Nat} {f : Nat → Nat} {most i x y : Nat} (h : CntS T A f most i x) (hx : x ≤ most) (hT : A + sumF f (i + 1) ≤ T) (hy : y ≤ most + 1) (h1 : x + y ≤ most → y = f i) (h2 : most < x + y → most < x + f i) : CntS T A f most (i + 1) (x + y) := by
  obtain ⟨a1, a2, a3⟩ := h
  have e := a1 hx
  simp only [sumF] at hT ⊢
  refine ⟨fun h => ?_, fun h => ?_, by omega⟩
  · rw [h1 h]
    simp only [sumF]
    omega
  · have := h2 h; omega
set_option maxHeartbeats 1000000 in
theorem Nodes (t : Tm) : ∀ most : Nat, most < 2 ^ 28 → VFun (P ()) 64 [tm t, .d (.int .i64 most)] (fun r => ∃ x : Nat, x = min (nodesT t) (most + 1) ∧ r = .d (.int .i64 x)) := by
  refine Tm.walk (P := fun t => ∀ most : Nat, most < 2 ^ 28 → VFun (P ()) 64 [tm t, .d (.int .i64 most)] (fun r => ∃ x : Nat, x = min (nodesT t) (most + 1) ∧ r = .d (.int .i64 x))) ?_ t
  clear t
  intro op n s k C N W Q m ok K G hG e ih most hm
  rw [e, nodesT_nd]
  clear e
  obtain ⟨tot, hT⟩ : ∃ tot, tot = 1 + sumF (fun i => 1 + N i) k + sumF (fun i => nodesT (K i)) m := ⟨_, rfl⟩
  rw [← hT]
  have okk := ok.k
  have okm := ok.m
  have okN := ok.N
  refine vfunO (Tf := fun {_} _ => fzT [2] (T ())) (fun {_} => tabOk.frz [2]) [] 400 Tryz.func64 rfl (fun {_} => by kernel_rfl) rfl (Nat.le_of_ble_eq_true rfl) @fun ⟨_, _, _, _, _, _, _, _, _, _, _, _, _, _, _, _, _, _, _, _, _, _, _, _, _, _, _, _, _, _, _, _, _, _, _, _, _, _, wp, wf⟩ R hR => ?_
  cbv
  try simp only [wp, (show ∀ n : Nat, _ = n from fun n => wf.2.2.2.2.2.2.2.2.2.2.2.2.2.1 (Int.ofNat n)), getL, takeL, dropL, TK.isAgg, reduceIte]
  replace hR := fun x H h => hR _ H (.d (.int .i64 (x : Nat))) (.d _) ⟨x, h, rfl⟩
  obtain ⟨Sk, hSk⟩ : ∃ Sk, Sk = sumF (fun i => 1 + N i) k := ⟨_, rfl⟩
  rw [← hSk] at hT
  refine loopO (Tf := fun {_} _ => fzT [2] (T ())) (fun {_} => tabOk.frz [2]) [] 400 (fun y : Nat × Nat => ⟨[.undef, .d (.int .i64 most), .iptr (fun x j => getL [.int .i64 op, .int .i64 n, .str s, .sl k 2 (lsF C N W Q), .sl m 5 G] j .nilp) 0 0 5, .undef, .d (.int .i64 0), .d (.int .i64 y.2), .d (.int .i64 y.1), .undef, .undef, .undef, .undef, .undef, .undef, .undef, .undef, .undef, .undef, .undef, .undef, .undef, .undef, .undef, .undef, .undef, .undef, .undef, .undef, .undef, .undef, .undef, .undef, .undef, .undef, .undef, .undef, .undef, .undef, .undef, .undef, .undef, .undef, .undef, .undef, .undef, .undef, .undef, .undef, .undef, .undef, .undef, .undef, .undef, .undef, .undef, .undef, .undef, .undef, .undef, .undef], []⟩) (fun y => k - y.1) (fun y => y.1 ≤ k ∧ CntS tot 1 (fun i => 1 + N i) most y.1 y.2) (0, 1) ⟨Nat.zero_le _, fun _ => rfl, fun h => by omega, by omega⟩ (fun {_} => by kernel_rfl) ?_ (fun i => by kernel_rfl) @fun ⟨_, _, _, _, _, _, _, _, _, _, _, _, _, _, _, _, _, _, _, _, _, _, _, _, _, _, _, _, _, _, _, _, _, _, _, _, _, _, wpa, wfa⟩ ⟨i, x⟩ Bk hi hBk => ?_
  · ((cbv; try simp only [wf, exD, exL, exT, exB, exA, leLs, leL_d, leL_undef, leL_nils, leA_nils, deq_refl, deq_int, deq_bool, deq_str, and_true, true_and, AObj.iter.injEq, nc, nc']; try simp (disch := omega) only [w64, w32, wu8]); first | done | rfl | omega | (simp; done) | (simp; omega) | skip)
  obtain ⟨i1, i2⟩ := hi
  dsimp only at i1 i2
  (cbv; try simp only [wp, (show ∀ n : Nat, _ = n from fun n => wf.2.2.2.2.2.2.2.2.2.2.2.2.2.1 (Int.ofNat n)), (show _ = (0 : Nat) from wf.2.2.2.2.2.2.2.2.2.2.2.2.2.1 0), wpa, (show ∀ n : Nat, _ = n from fun n => wfa.2.2.2.2.2.2.2.2.2.2.2.2.2.1 (Int.ofNat n)), (show _ = (0 : Nat) from wfa.2.2.2.2.2.2.2.2.2.2.2.2.2.1 0), getL, takeL, dropL, TK.isAgg, reduceIte])
  refine ⟨fun e1 => ⟨fun e2 => ?_, fun e2 => ?_⟩, fun e1 => ?_⟩
  · have e1 : i < k := (by (try simp only [wf, wfa, nc, nc', Int.toNat_natCast, bsz, ByteArray.size_append, List.length_cons, List.length_nil] at *); (try simp (disch := omega) only [w64, w32, wu8] at *); first | done | omega)
    have e2 : x ≤ most := (by (try simp only [wf, wfa, nc, nc', Int.toNat_natCast, bsz, ByteArray.size_append, List.length_cons, List.length_nil] at *); (try simp (disch := omega) only [w64, w32, wu8] at *); first | done | omega)
    have oN := okN i
    have hle := sumF_one (f := fun i => 1 + N i) e1
    (refine Later.mk ?_; cbv; try simp only [wp, (show ∀ n : Nat, _ = n from fun n => wf.2.2.2.2.2.2.2.2.2.2.2.2.2.1 (Int.ofNat n)), (show _ = (0 : Nat) from wf.2.2.2.2.2.2.2.2.2.2.2.2.2.1 0), wpa, (show ∀ n : Nat, _ = n from fun n => wfa.2.2.2.2.2.2.2.2.2.2.2.2.2.1 (Int.ofNat n)), (show _ = (0 : Nat) from wfa.2.2.2.2.2.2.2.2.2.2.2.2.2.1 0), getL, takeL, dropL, TK.isAgg, reduceIte])
    repeat' first | with_reducible refine And.intro ?_ ?_ | intro c9
    all_goals first | exact (by (try simp only [wf, wfa, nc, nc', Int.toNat_natCast, bsz, ByteArray.size_append, List.length_cons, List.length_nil] at *); (try simp (disch := omega) only [w64, w32, wu8] at *); first | done | omega) | trivial | skip
    obtain ⟨z, hz⟩ : ∃ z, z = x + (1 + min (N i) most) := ⟨_, rfl⟩
    have hn : CntS tot 1 (fun i => 1 + N i) most (i + 1) z := by
      rw [hz]
      exact i2.next e2 (by have := sumF_le (f := fun i => 1 + N i) (i := i + 1) e1; rw [← hSk] at this; omega) (by omega) (fun h => by omega) (fun h => by omega)
    refine hBk (i + 1, z) _ (by dsimp only; omega) ⟨by dsimp only; omega, hn⟩ ?_
    (cbv; try simp only [wf, wfa, exD, exL, exT, exB, exA, leLs, leL_d, leL_undef, leL_nils, leA_nils, deq_refl, deq_int, deq_bool, deq_str, and_true, true_and, AObj.iter.injEq, nc, nc']; try simp (disch := omega) only [w64, w32, wu8])
    exact ⟨by omega, rfl⟩
  all_goals
    have hz : CntS tot (1 + Sk) (fun i => nodesT (K i)) most 0 x := by
      obtain ⟨a1, a2, a3⟩ := i2
      refine ⟨fun h => ?_, a2, a3⟩
      first
      | (have e2 : most < x := (by (try simp only [wf, wfa, nc, nc', Int.toNat_natCast, bsz, ByteArray.size_append, List.length_cons, List.length_nil] at *); (try simp (disch := omega) only [w64, w32, wu8] at *); first | done | omega)
         omega)
      | (obtain rfl : i = k := (by (try simp only [wf, wfa, nc, nc', Int.toNat_natCast, bsz, ByteArray.size_append, List.length_cons, List.length_nil] at *); (try simp (disch := omega) only [w64, w32, wu8] at *); first | done | omega)
         rw [a1 h, ← hSk]
         rfl)
    clear i2 hBk
    (refine Later.mk ?_; cbv; try simp only [wp, (show ∀ n : Nat, _ = n from fun n => wf.2.2.2.2.2.2.2.2.2.2.2.2.2.1 (Int.ofNat n)), (show _ = (0 : Nat) from wf.2.2.2.2.2.2.2.2.2.2.2.2.2.1 0), wpa, (show ∀ n : Nat, _ = n from fun n => wfa.2.2.2.2.2.2.2.2.2.2.2.2.2.1 (Int.ofNat n)), (show _ = (0 : Nat) from wfa.2.2.2.2.2.2.2.2.2.2.2.2.2.1 0), getL, takeL, dropL, TK.isAgg, reduceIte])
    repeat' first | with_reducible refine And.intro ?_ ?_ | intro c9
    all_goals first | exact (by (try simp only [wf, wfa, nc, nc', Int.toNat_natCast, bsz, ByteArray.size_append, List.length_cons, List.length_nil] at *); (try simp (disch := omega) only [w64, w32, wu8] at *); first | done | omega) | trivial | skip
    refine loopO (Tf := fun {_} _ => fzT [2] (T ())) (fun {_} => tabOk.frz [2]) [] 400 (fun y : Nat × Nat => ⟨[.undef, .d (.int .i64 most), .iptr (fun x j => getL [.int .i64 op, .int .i64 n, .str s, .sl k 2 (lsF C N W Q), .sl m 5 G] j .nilp) 0 0 5, .undef, .d (.int .i64 0), .d (.int .i64 y.2), .undef, .d (.int .i64 y.1), .undef, .undef, .undef, .undef, .undef, .undef, .undef, .undef, .undef, .undef, .undef, .undef, .undef, .undef, .undef, .undef, .undef, .undef, .undef, .undef, .undef, .undef, .undef, .undef, .undef, .undef, .undef, .undef, .undef, .undef, .undef, .undef, .undef, .undef, .undef, .undef, .undef, .undef, .undef, .undef, .undef, .undef, .undef, .undef, .undef, .undef, .undef, .undef, .undef, .undef, .undef], []⟩) (fun y => m - y.1) (fun y => y.1 ≤ m ∧ CntS tot (1 + Sk) (fun i => nodesT (K i)) most y.1 y.2) (0, x) ⟨Nat.zero_le _, hz⟩ (fun {_} => by kernel_rfl) ?_ (fun i => by kernel_rfl) @fun ⟨_, _, _, _, _, _, _, _, _, _, _, _, _, _, _, _, _, _, _, _, _, _, _, _, _, _, _, _, _, _, _, _, _, _, _, _, _, _, wpb, wfb⟩ ⟨j, x2⟩ Bk hj hBk => ?_
    · ((cbv; try simp only [wf, exD, exL, exT, exB, exA, leLs, leL_d, leL_undef, leL_nils, leA_nils, deq_refl, deq_int, deq_bool, deq_str, and_true, true_and, AObj.iter.injEq, nc, nc']; try simp (disch := omega) only [w64, w32, wu8]); first | done | rfl | omega | (simp; done) | (simp; omega) | skip)
    obtain ⟨j1, j2⟩ := hj
    dsimp only at j1 j2
    (cbv; try simp only [wp, (show ∀ n : Nat, _ = n from fun n => wf.2.2.2.2.2.2.2.2.2.2.2.2.2.1 (Int.ofNat n)), (show _ = (0 : Nat) from wf.2.2.2.2.2.2.2.2.2.2.2.2.2.1 0), wpa, (show ∀ n : Nat, _ = n from fun n => wfa.2.2.2.2.2.2.2.2.2.2.2.2.2.1 (Int.ofNat n)), (show _ = (0 : Nat) from wfa.2.2.2.2.2.2.2.2.2.2.2.2.2.1 0), wpb, (show ∀ n : Nat, _ = n from fun n => wfb.2.2.2.2.2.2.2.2.2.2.2.2.2.1 (Int.ofNat n)), (show _ = (0 : Nat) from wfb.2.2.2.2.2.2.2.2.2.2.2.2.2.1 0), getL, takeL, dropL, TK.isAgg, reduceIte])
    refine ⟨fun e3 => ⟨fun e4 => ?_, fun e4 => ?_⟩, fun e3 => ?_⟩
    · have e3 : j < m := (by (try simp only [wf, wfa, wfb, nc, nc', Int.toNat_natCast, bsz, ByteArray.size_append, List.length_cons, List.length_nil] at *); (try simp (disch := omega) only [w64, w32, wu8] at *); first | done | omega)
      have e4 : x2 ≤ most := (by (try simp only [wf, wfa, wfb, nc, nc', Int.toNat_natCast, bsz, ByteArray.size_append, List.length_cons, List.length_nil] at *); (try simp (disch := omega) only [w64, w32, wu8] at *); first | done | omega)
      have hle := sumF_one (f := fun i => nodesT (K i)) e3
      have ihj := ih j e3 (most - x2) (by omega)
      rw [hG j e3] at ihj
      (refine Later.mk ?_; cbv; try simp only [wp, (show ∀ n : Nat, _ = n from fun n => wf.2.2.2.2.2.2.2.2.2.2.2.2.2.1 (Int.ofNat n)), (show _ = (0 : Nat) from wf.2.2.2.2.2.2.2.2.2.2.2.2.2.1 0), wpa, (show ∀ n : Nat, _ = n from fun n => wfa.2.2.2.2.2.2.2.2.2.2.2.2.2.1 (Int.ofNat n)), (show _ = (0 : Nat) from wfa.2.2.2.2.2.2.2.2.2.2.2.2.2.1 0), wpb, (show ∀ n : Nat, _ = n from fun n => wfb.2.2.2.2.2.2.2.2.2.2.2.2.2.1 (Int.ofNat n)), (show _ = (0 : Nat) from wfb.2.2.2.2.2.2.2.2.2.2.2.2.2.1 0), getL, takeL, dropL, TK.isAgg, reduceIte])
      repeat' first | with_reducible refine And.intro ?_ ?_ | intro c9
      all_goals first | exact (by (try simp only [wf, wfa, wfb, nc, nc', Int.toNat_natCast, bsz, ByteArray.size_append, List.length_cons, List.length_nil] at *); (try simp (disch := omega) only [w64, w32, wu8] at *); first | done | omega) | trivial | skip
      refine CallW.args (args' := [kid G j, .d (.int .i64 ((most - x2 : Nat) : Int))]) (fun {_ _} => ⟨⟨_, rfl, .refl _, .refl _, .refl _, .refl _, .refl _, trivial⟩, (Deq.of_eq (congrArg (D.int .i64) (by (try simp only [wf, wfa, wfb, nc, nc', Int.toNat_natCast, bsz, ByteArray.size_append, List.length_cons, List.length_nil] at *); (try simp (disch := omega) only [w64, w32, wu8] at *); first | done | omega))), trivial⟩) (ihj.call ?_)
      rintro _ ⟨x3, hx3, rfl⟩
      (cbv; try simp only [wp, (show ∀ n : Nat, _ = n from fun n => wf.2.2.2.2.2.2.2.2.2.2.2.2.2.1 (Int.ofNat n)), (show _ = (0 : Nat) from wf.2.2.2.2.2.2.2.2.2.2.2.2.2.1 0), wpa, (show ∀ n : Nat, _ = n from fun n => wfa.2.2.2.2.2.2.2.2.2.2.2.2.2.1 (Int.ofNat n)), (show _ = (0 : Nat) from wfa.2.2.2.2.2.2.2.2.2.2.2.2.2.1 0), wpb, (show ∀ n : Nat, _ = n from fun n => wfb.2.2.2.2.2.2.2.2.2.2.2.2.2.1 (Int.ofNat n)), (show _ = (0 : Nat) from wfb.2.2.2.2.2.2.2.2.2.2.2.2.2.1 0), getL, takeL, dropL, TK.isAgg, reduceIte])
      have hn : CntS tot (1 + Sk) (fun i => nodesT (K i)) most (j + 1) (x2 + x3) :=
        j2.next e4 (by have := sumF_le (f := fun i => nodesT (K i)) (i := j + 1) e3; omega) (by omega) (fun h => by omega) (fun h => by omega)
      obtain ⟨z, hz⟩ : ∃ z, z = x2 + x3 := ⟨_, rfl⟩
      rw [← hz] at hn
      repeat' first | with_reducible refine And.intro ?_ ?_ | intro c9
      all_goals first | exact (by (try simp only [wf, wfa, wfb, nc, nc', Int.toNat_natCast, bsz, ByteArray.size_append, List.length_cons, List.length_nil] at *); (try simp (disch := omega) only [w64, w32, wu8] at *); first | done | omega) | trivial | skip
      refine hBk (j + 1, z) _ (by dsimp only; omega) ⟨by dsimp only; omega, hn⟩ ?_
      (cbv; try simp only [wf, wfa, wfb, exD, exL, exT, exB, exA, leLs, leL_d, leL_undef, leL_nils, leA_nils, deq_refl, deq_int, deq_bool, deq_str, and_true, true_and, AObj.iter.injEq, nc, nc']; try simp (disch := omega) only [w64, w32, wu8])
      exact ⟨by omega, rfl⟩
    all_goals
      have hfin : x2 = tot ∨ (most < x2 ∧ most < tot) := by
        obtain ⟨a1, a2, a3⟩ := j2
        first
        | (have e4 : most < x2 := (by (try simp only [wf, wfa, wfb, nc, nc', Int.toNat_natCast, bsz, ByteArray.size_append, List.length_cons, List.length_nil] at *); (try simp (disch := omega) only [w64, w32, wu8] at *); first | done | omega)
           exact .inr ⟨e4, a2 e4⟩)
        | (obtain rfl : j = m := (by (try simp only [wf, wfa, wfb, nc, nc', Int.toNat_natCast, bsz, ByteArray.size_append, List.length_cons, List.length_nil] at *); (try simp (disch := omega) only [w64, w32, wu8] at *); first | done | omega)
           by_cases e5 : x2 ≤ most
           · exact .inl (by rw [hT, a1 e5])
           · exact .inr ⟨by omega, a2 (by omega)⟩)
      (refine Later.mk ?_; cbv; try simp only [wp, (show ∀ n : Nat, _ = n from fun n => wf.2.2.2.2.2.2.2.2.2.2.2.2.2.1 (Int.ofNat n)), (show _ = (0 : Nat) from wf.2.2.2.2.2.2.2.2.2.2.2.2.2.1 0), wpa, (show ∀ n : Nat, _ = n from fun n => wfa.2.2.2.2.2.2.2.2.2.2.2.2.2.1 (Int.ofNat n)), (show _ = (0 : Nat) from wfa.2.2.2.2.2.2.2.2.2.2.2.2.2.1 0), wpb, (show ∀ n : Nat, _ = n from fun n => wfb.2.2.2.2.2.2.2.2.2.2.2.2.2.1 (Int.ofNat n)), (show _ = (0 : Nat) from wfb.2.2.2.2.2.2.2.2.2.2.2.2.2.1 0), getL, takeL, dropL, TK.isAgg, reduceIte])
      repeat' first | with_reducible refine And.intro ?_ ?_ | intro c9
      all_goals first | exact (by (try simp only [wf, wfa, wfb, nc, nc', Int.toNat_natCast, bsz, ByteArray.size_append, List.length_cons, List.length_nil] at *); (try simp (disch := omega) only [w64, w32, wu8] at *); first | done | omega) | trivial | skip
      ((try simp only [wf, wfa, wfb, nc, nc', Int.toNat_natCast, bsz, ByteArray.size_append, List.length_cons, List.length_nil] at *); (try simp (disch := omega) only [w64, w32, wu8] at *))
      refine (congrArg (fun z => R (.d (.int .i64 z)) _) (?_ : _ = ((min tot (most + 1) : Nat) : Int))).mpr (hR (min tot (most + 1)) _ rfl)
      split <;> omega
end Go.VM

namespace Go.VM
open Go.Proofs Go
set_option maxRecDepth 100000
set_option linter.unusedVariables false
set_option linter.unusedSimpArgs false
set_option maxHeartbeats 1000000 in
theorem long (t : Tm) : VFun (P ()) 65 [tm t] (fun r => ∃ b : Bool, (b = true ↔ longT t) ∧ r = .d (.bool b)) := by
  refine Tm.walk (P := fun t => VFun (P ()) 65 [tm t] (fun r => ∃ b : Bool, (b = true ↔ longT t) ∧ r = .d (.bool b))) ?_ t
  clear t
  intro op n s k C N W Q m ok K G hG e ih
  rw [e, longT_nd]
  clear e
  have okm := ok.m
  have oks := ok.s
  refine vfunO (Tf := fun {_} _ => fzT [1] (T ())) (fun {_} => tabOk.frz [1]) [] 400 Tryz.func65 rfl (fun {_} => by kernel_rfl) rfl (Nat.le_of_ble_eq_true rfl) @fun ⟨_, _, _, _, _, _, _, _, _, _, _, _, _, _, _, _, _, _, _, _, _, _, _, _, _, _, _, _, _, _, _, _, _, _, _, _, _, _, wp, wf⟩ R hR => ?_
  cbv
  try simp only [wp, (show ∀ n : Nat, _ = n from fun n => wf.2.2.2.2.2.2.2.2.2.2.2.2.2.1 (Int.ofNat n)), getL, takeL, dropL, TK.isAgg, reduceIte]
  replace hR := fun b H h => hR _ H (.d (.bool b)) (.d _) ⟨b, h, rfl⟩
  repeat' first | with_reducible refine And.intro ?_ ?_ | intro c9
  all_goals (refine Later.mk ?_; cbv; try simp only [wp, (show ∀ n : Nat, _ = n from fun n => wf.2.2.2.2.2.2.2.2.2.2.2.2.2.1 (Int.ofNat n)), (show _ = (0 : Nat) from wf.2.2.2.2.2.2.2.2.2.2.2.2.2.1 0), getL, takeL, dropL, TK.isAgg, reduceIte])
  · exact hR true _ (iffT (.inl (by (try simp only [wf, nc, nc', Int.toNat_natCast, bsz, ByteArray.size_append, List.length_cons, List.length_nil] at *); (try simp (disch := omega) only [w64, w32, wu8] at *); first | done | omega)))
  · have hs : ¬ 200 < s.size := (by (try simp only [wf, nc, nc', Int.toNat_natCast, bsz, ByteArray.size_append, List.length_cons, List.length_nil] at *); (try simp (disch := omega) only [w64, w32, wu8] at *); first | done | omega)
    refine loopO (Tf := fun {_} _ => fzT [1] (T ())) (fun {_} => tabOk.frz [1]) [] 400 (fun i : Nat => ⟨[.undef, .iptr (fun x j => getL [.int .i64 op, .int .i64 n, .str s, .sl k 2 (lsF C N W Q), .sl m 5 G] j .nilp) 0 0 5, .d (.bool false), .d (.int .i64 i), .undef, .undef, .undef, .undef, .undef, .undef, .undef, .undef, .undef, .undef, .undef, .undef, .undef, .undef, .undef, .undef, .undef], []⟩) (fun i => m - i) (fun i => i ≤ m ∧ ∀ j, j < i → ¬ longT (K j)) 0 ⟨Nat.zero_le _, fun j hj => absurd hj (Nat.not_lt_zero _)⟩ (fun {_} => by kernel_rfl) ?_ (fun i => by kernel_rfl) @fun ⟨_, _, _, _, _, _, _, _, _, _, _, _, _, _, _, _, _, _, _, _, _, _, _, _, _, _, _, _, _, _, _, _, _, _, _, _, _, _, wpa, wfa⟩ i Bk hi hBk => ?_
    · ((cbv; try simp only [wf, exD, exL, exT, exB, exA, leLs, leL_d, leL_undef, leL_nils, leA_nils, deq_refl, deq_int, deq_bool, deq_str, and_true, true_and, AObj.iter.injEq, nc, nc']; try simp (disch := omega) only [w64, w32, wu8]); first | done | rfl | omega | (simp; done) | (simp; omega) | skip)
    obtain ⟨i1, i2⟩ := hi
    (cbv; try simp only [wp, (show ∀ n : Nat, _ = n from fun n => wf.2.2.2.2.2.2.2.2.2.2.2.2.2.1 (Int.ofNat n)), (show _ = (0 : Nat) from wf.2.2.2.2.2.2.2.2.2.2.2.2.2.1 0), wpa, (show ∀ n : Nat, _ = n from fun n => wfa.2.2.2.2.2.2.2.2.2.2.2.2.2.1 (Int.ofNat n)), (show _ = (0 : Nat) from wfa.2.2.2.2.2.2.2.2.2.2.2.2.2.1 0), getL, takeL, dropL, TK.isAgg, reduceIte])
    refine ⟨fun e1 => ?_, fun e1 => ?_⟩
    · have e1 : i < m := (by (try simp only [wf, wfa, nc, nc', Int.toNat_natCast, bsz, ByteArray.size_append, List.length_cons, List.length_nil] at *); (try simp (disch := omega) only [w64, w32, wu8] at *); first | done | omega)
      have ihi := ih i e1
      rw [hG i e1] at ihi
      (refine Later.mk ?_; cbv; try simp only [wp, (show ∀ n : Nat, _ = n from fun n => wf.2.2.2.2.2.2.2.2.2.2.2.2.2.1 (Int.ofNat n)), (show _ = (0 : Nat) from wf.2.2.2.2.2.2.2.2.2.2.2.2.2.1 0), wpa, (show ∀ n : Nat, _ = n from fun n => wfa.2.2.2.2.2.2.2.2.2.2.2.2.2.1 (Int.ofNat n)), (show _ = (0 : Nat) from wfa.2.2.2.2.2.2.2.2.2.2.2.2.2.1 0), getL, takeL, dropL, TK.isAgg, reduceIte])
      repeat' first | with_reducible refine And.intro ?_ ?_ | intro c9
      all_goals first | exact (by (try simp only [wf, wfa, nc, nc', Int.toNat_natCast, bsz, ByteArray.size_append, List.length_cons, List.length_nil] at *); (try simp (disch := omega) only [w64, w32, wu8] at *); first | done | omega) | trivial | skip
      refine ihi.call ?_
      rintro _ ⟨b, hb, rfl⟩
      rcases hb.dich with ⟨rfl, v⟩ | ⟨rfl, v⟩ <;> clear hb <;> (cbv; try simp only [wp, (show ∀ n : Nat, _ = n from fun n => wf.2.2.2.2.2.2.2.2.2.2.2.2.2.1 (Int.ofNat n)), (show _ = (0 : Nat) from wf.2.2.2.2.2.2.2.2.2.2.2.2.2.1 0), wpa, (show ∀ n : Nat, _ = n from fun n => wfa.2.2.2.2.2.2.2.2.2.2.2.2.2.1 (Int.ofNat n)), (show _ = (0 : Nat) from wfa.2.2.2.2.2.2.2.2.2.2.2.2.2.1 0), getL, takeL, dropL, TK.isAgg, reduceIte]) <;> (refine Later.mk ?_; cbv; try simp only [wp, (show ∀ n : Nat, _ = n from fun n => wf.2.2.2.2.2.2.2.2.2.2.2.2.2.1 (Int.ofNat n)), (show _ = (0 : Nat) from wf.2.2.2.2.2.2.2.2.2.2.2.2.2.1 0), wpa, (show ∀ n : Nat, _ = n from fun n => wfa.2.2.2.2.2.2.2.2.2.2.2.2.2.1 (Int.ofNat n)), (show _ = (0 : Nat) from wfa.2.2.2.2.2.2.2.2.2.2.2.2.2.1 0), getL, takeL, dropL, TK.isAgg, reduceIte])
      · exact hR true _ (iffT (.inr ⟨i, e1, v⟩))
      · refine hBk (i + 1) _ (by omega) ⟨by omega, fun j hj => ?_⟩ ?_
        · by_cases ej : j = i
          · subst ej; exact v
          · exact i2 j (by omega)
        · ((cbv; try simp only [wf, wfa, exD, exL, exT, exB, exA, leLs, leL_d, leL_undef, leL_nils, leA_nils, deq_refl, deq_int, deq_bool, deq_str, and_true, true_and, AObj.iter.injEq, nc, nc']; try simp (disch := omega) only [w64, w32, wu8]); first | done | rfl | omega | (simp; done) | (simp; omega) | skip)
    · obtain rfl : i = m := (by (try simp only [wf, wfa, nc, nc', Int.toNat_natCast, bsz, ByteArray.size_append, List.length_cons, List.length_nil] at *); (try simp (disch := omega) only [w64, w32, wu8] at *); first | done | omega)
      (refine Later.mk ?_; cbv; try simp only [wp, (show ∀ n : Nat, _ = n from fun n => wf.2.2.2.2.2.2.2.2.2.2.2.2.2.1 (Int.ofNat n)), (show _ = (0 : Nat) from wf.2.2.2.2.2.2.2.2.2.2.2.2.2.1 0), wpa, (show ∀ n : Nat, _ = n from fun n => wfa.2.2.2.2.2.2.2.2.2.2.2.2.2.1 (Int.ofNat n)), (show _ = (0 : Nat) from wfa.2.2.2.2.2.2.2.2.2.2.2.2.2.1 0), getL, takeL, dropL, TK.isAgg, reduceIte])
      exact hR false _ (iffF fun h => h.elim hs fun ⟨j, hj, hl⟩ => i2 j hj hl)
set_option maxHeartbeats 1000000 in
theorem Heavy (t : Tm) (most : Nat) (hm : most < 2 ^ 28) : VFun (P ()) 36 [tm t, .d (.int .i64 most)] (fun r => ∃ b : Bool, (b = false ↔ Light t most) ∧ r = .d (.bool b)) := by
  unfold tm
  obtain ⟨f, hf⟩ : ∃ f, f = tmD t := ⟨_, rfl⟩
  have e : tm t = .agg [.d (f 0), .d (f 1), .d (f 2), .d (f 3), .d (f 4)] := by rw [hf]; rfl
  rw [← hf]
  have h1 := Nodes t most hm
  have h2 := long t
  rw [e] at h1 h2
  refine vfunO (Tf := fun {_} _ => fzT [2] (T ())) (fun {_} => tabOk.frz [2]) [] 400 Tryz.func36 rfl (fun {_} => by kernel_rfl) rfl (Nat.le_of_ble_eq_true rfl) @fun ⟨_, _, _, _, _, _, _, _, _, _, _, _, _, _, _, _, _, _, _, _, _, _, _, _, _, _, _, _, _, _, _, _, _, _, _, _, _, _, wp, wf⟩ R hR => ?_
  cbv
  try simp only [wp, (show ∀ n : Nat, _ = n from fun n => wf.2.2.2.2.2.2.2.2.2.2.2.2.2.1 (Int.ofNat n)), getL, takeL, dropL, TK.isAgg, reduceIte]
  replace hR := fun b H h => hR _ H (.d (.bool b)) (.d _) ⟨b, h, rfl⟩
  refine h1.call ?_
  rintro _ ⟨x, hx, rfl⟩
  (cbv; try simp only [wp, (show ∀ n : Nat, _ = n from fun n => wf.2.2.2.2.2.2.2.2.2.2.2.2.2.1 (Int.ofNat n)), (show _ = (0 : Nat) from wf.2.2.2.2.2.2.2.2.2.2.2.2.2.1 0), getL, takeL, dropL, TK.isAgg, reduceIte])
  refine ⟨fun c9 => ?_, fun c9 => ?_⟩
  · have c9 : most < x := (by (try simp only [wf, nc, nc', Int.toNat_natCast, bsz, ByteArray.size_append, List.length_cons, List.length_nil] at *); (try simp (disch := omega) only [w64, w32, wu8] at *); first | done | omega)
    exact hR true _ ⟨fun h => (by cases h), fun h => by have := h.1; omega⟩
  · have c9 : x ≤ most := (by (try simp only [wf, nc, nc', Int.toNat_natCast, bsz, ByteArray.size_append, List.length_cons, List.length_nil] at *); (try simp (disch := omega) only [w64, w32, wu8] at *); first | done | omega)
    refine h2.call ?_
    rintro _ ⟨b, hb, rfl⟩
    (cbv; try simp only [wp, (show ∀ n : Nat, _ = n from fun n => wf.2.2.2.2.2.2.2.2.2.2.2.2.2.1 (Int.ofNat n)), (show _ = (0 : Nat) from wf.2.2.2.2.2.2.2.2.2.2.2.2.2.1 0), getL, takeL, dropL, TK.isAgg, reduceIte])
    exact hR b _ ⟨fun h => ⟨by omega, fun hl => by rw [hb.2 hl] at h; cases h⟩, fun h => by
      cases b
      · rfl
      · exact absurd (hb.1 rfl) h.2⟩
set_option maxHeartbeats 1000000 in
theorem Size (t : Tm) : Light t 400 → VFun (P ()) 70 [tm t] (fun r => r = .tup [.d (.int .i64 (cntT t)), .d (.int .i64 (depT t))]) := by
  refine Tm.walk (P := fun t => Light t 400 → VFun (P ()) 70 [tm t] (fun r => r = .tup [.d (.int .i64 (cntT t)), .d (.int .i64 (depT t))])) ?_ t
  clear t
  intro op n s k C N W Q m ok K G hG e ih hl
  obtain ⟨l1, l2, l3, l4⟩ := hl.kid
  have hc := Nat.le_trans (cntT_le _) hl.1
  have hd := Nat.le_trans (depT_le _) hl.1
  rw [e]
  rw [cntT_nd] at hc ⊢
  rw [depT_nd] at hd ⊢
  clear e
  refine vfunO (Tf := fun {_} _ => fzT [1] (T ())) (fun {_} => tabOk.frz [1]) [] 400 Tryz.func70 rfl (fun {_} => by kernel_rfl) rfl (Nat.le_of_ble_eq_true rfl) @fun ⟨_, _, _, _, _, _, _, _, _, _, _, _, _, _, _, _, _, _, _, _, _, _, _, _, _, _, _, _, _, _, _, _, _, _, _, _, _, _, wp, wf⟩ R hR => ?_
  cbv
  try simp only [wp, (show ∀ n : Nat, _ = n from fun n => wf.2.2.2.2.2.2.2.2.2.2.2.2.2.1 (Int.ofNat n)), getL, takeL, dropL, TK.isAgg, reduceIte]
  replace hR := fun H => hR _ H (.tup [.d (.int .i64 ((sumF (fun i => cntT (K i)) m + 1 : Nat) : Int)), .d (.int .i64 ((maxF (fun i => depT (K i)) m + 1 : Nat) : Int))]) (.tup2 (.d _) (.d _)) rfl
  obtain ⟨cK, hcK⟩ : ∃ cK : Nat → Nat, ∀ i, cK i = cntT (K i) := ⟨_, fun _ => rfl⟩
  obtain ⟨dK, hdK⟩ : ∃ dK : Nat → Nat, ∀ i, dK i = depT (K i) := ⟨_, fun _ => rfl⟩
  simp only [← hcK, ← hdK] at hc hd hR ih
  clear hcK hdK
  obtain ⟨sF, hsF⟩ : ∃ sF, sF = sumF (fun i => cK i) := ⟨_, rfl⟩
  obtain ⟨dF, hdF⟩ : ∃ dF, dF = maxF (fun i => dK i) := ⟨_, rfl⟩
  have s0 : sF 0 = 0 := by rw [hsF]; rfl
  have d0 : dF 0 = 0 := by rw [hdF]; rfl
  have s1 : ∀ i, sF (i + 1) = sF i + cK i := fun i => by rw [hsF]; rfl
  have d1 : ∀ i, dF (i + 1) = max (dF i) (dK i) := fun i => by rw [hdF]; rfl
  have s2 : ∀ i, i ≤ m → sF i ≤ sF m := fun i h => by rw [hsF]; exact sumF_le h
  have d2 : ∀ i, i ≤ m → dF i ≤ dF m := fun i h => by rw [hdF]; exact maxF_le h
  rw [← hsF] at hc hR
  rw [← hdF] at hd hR
  clear hsF hdF
  refine loopO (Tf := fun {_} _ => fzT [1] (T ())) (fun {_} => tabOk.frz [1]) [] 400 (fun i : Nat => ⟨[.undef, .undef, .d (.int .i64 (sF i : Nat)), .d (.int .i64 (dF i : Nat)), .undef, .undef, .undef, .undef, .undef, .d (.sl m 5 G), .d (.int .i64 m), .d (.int .i64 i), .undef, .undef, .undef, .undef, .undef, .undef, .undef, .undef, .undef, .undef, .undef, .undef, .undef, .undef, .undef, .undef, .undef, .undef, .undef], []⟩) (fun i => m - i) (fun i => i ≤ m) 0 (Nat.zero_le _) (fun {_} => by kernel_rfl) ?_ (fun i => by kernel_rfl) @fun ⟨_, _, _, _, _, _, _, _, _, _, _, _, _, _, _, _, _, _, _, _, _, _, _, _, _, _, _, _, _, _, _, _, _, _, _, _, _, _, wpa, wfa⟩ i Bk hi hBk => ?_
  · (cbv; try simp only [wf, exD, exL, exT, exB, exA, leLs, leL_d, leL_undef, leL_nils, leA_nils, deq_refl, deq_int, deq_bool, deq_str, and_true, true_and, AObj.iter.injEq, nc, nc']; try simp (disch := omega) only [w64, w32, wu8])
    rw [s0, d0]
    exact ⟨rfl, rfl, rfl⟩
  (cbv; try simp only [wp, (show ∀ n : Nat, _ = n from fun n => wf.2.2.2.2.2.2.2.2.2.2.2.2.2.1 (Int.ofNat n)), (show _ = (0 : Nat) from wf.2.2.2.2.2.2.2.2.2.2.2.2.2.1 0), wpa, (show ∀ n : Nat, _ = n from fun n => wfa.2.2.2.2.2.2.2.2.2.2.2.2.2.1 (Int.ofNat n)), (show _ = (0 : Nat) from wfa.2.2.2.2.2.2.2.2.2.2.2.2.2.1 0), getL, takeL, dropL, TK.isAgg, reduceIte])
  refine ⟨fun e1 => ?_, fun e1 => ?_⟩
  · have e1 : i < m := (by (try simp only [wf, wfa, nc, nc', Int.toNat_natCast, bsz, ByteArray.size_append, List.length_cons, List.length_nil] at *); (try simp (disch := omega) only [w64, w32, wu8] at *); first | done | omega)
    have ihi := ih i e1 (l4 i e1)
    rw [hG i e1] at ihi
    have q1 := s1 i
    have q2 := d1 i
    have q3 := s2 (i + 1) e1
    have q4 := d2 (i + 1) e1
    (refine Later.mk ?_; cbv; try simp only [wp, (show ∀ n : Nat, _ = n from fun n => wf.2.2.2.2.2.2.2.2.2.2.2.2.2.1 (Int.ofNat n)), (show _ = (0 : Nat) from wf.2.2.2.2.2.2.2.2.2.2.2.2.2.1 0), wpa, (show ∀ n : Nat, _ = n from fun n => wfa.2.2.2.2.2.2.2.2.2.2.2.2.2.1 (Int.ofNat n)), (show _ = (0 : Nat) from wfa.2.2.2.2.2.2.2.2.2.2.2.2.2.1 0), getL, takeL, dropL, TK.isAgg, reduceIte])
    repeat' first | with_reducible refine And.intro ?_ ?_ | intro c9
    all_goals first | exact (by (try simp only [wf, wfa, nc, nc', Int.toNat_natCast, bsz, ByteArray.size_append, List.length_cons, List.length_nil] at *); (try simp (disch := omega) only [w64, w32, wu8] at *); first | done | omega) | trivial | skip
    refine ihi.call ?_
    rintro _ rfl
    (cbv; try simp only [wp, (show ∀ n : Nat, _ = n from fun n => wf.2.2.2.2.2.2.2.2.2.2.2.2.2.1 (Int.ofNat n)), (show _ = (0 : Nat) from wf.2.2.2.2.2.2.2.2.2.2.2.2.2.1 0), wpa, (show ∀ n : Nat, _ = n from fun n => wfa.2.2.2.2.2.2.2.2.2.2.2.2.2.1 (Int.ofNat n)), (show _ = (0 : Nat) from wfa.2.2.2.2.2.2.2.2.2.2.2.2.2.1 0), getL, takeL, dropL, TK.isAgg, reduceIte])
    repeat' first | with_reducible refine And.intro ?_ ?_ | intro c9
    all_goals first | exact (by (try simp only [wf, wfa, nc, nc', Int.toNat_natCast, bsz, ByteArray.size_append, List.length_cons, List.length_nil] at *); (try simp (disch := omega) only [w64, w32, wu8] at *); first | done | omega) | trivial | skip
    all_goals
      refine hBk (i + 1) _ (by omega) (by omega) ?_
      (cbv; try simp only [wf, wfa, exD, exL, exT, exB, exA, leLs, leL_d, leL_undef, leL_nils, leA_nils, deq_refl, deq_int, deq_bool, deq_str, and_true, true_and, AObj.iter.injEq, nc, nc']; try simp (disch := omega) only [w64, w32, wu8])
      ((try simp only [wf, wfa, nc, nc', Int.toNat_natCast, bsz, ByteArray.size_append, List.length_cons, List.length_nil] at *); (try simp (disch := omega) only [w64, w32, wu8] at *))
      exact ⟨by omega, by split <;> omega, by omega⟩
  · obtain rfl : i = m := (by (try simp only [wf, wfa, nc, nc', Int.toNat_natCast, bsz, ByteArray.size_append, List.length_cons, List.length_nil] at *); (try simp (disch := omega) only [w64, w32, wu8] at *); first | done | omega)
    (refine Later.mk ?_; cbv; try simp only [wp, (show ∀ n : Nat, _ = n from fun n => wf.2.2.2.2.2.2.2.2.2.2.2.2.2.1 (Int.ofNat n)), (show _ = (0 : Nat) from wf.2.2.2.2.2.2.2.2.2.2.2.2.2.1 0), wpa, (show ∀ n : Nat, _ = n from fun n => wfa.2.2.2.2.2.2.2.2.2.2.2.2.2.1 (Int.ofNat n)), (show _ = (0 : Nat) from wfa.2.2.2.2.2.2.2.2.2.2.2.2.2.1 0), getL, takeL, dropL, TK.isAgg, reduceIte])
    ((try simp only [wf, wfa, nc, nc', Int.toNat_natCast, bsz, ByteArray.size_append, List.length_cons, List.length_nil] at *); (try simp (disch := omega) only [w64, w32, wu8] at *))
    exact hR _
set_option maxHeartbeats 1000000 in
theorem RSize (t : Tm) : Light t 400 → VFun (P ()) 11 [tm t] (fun r => r = .tup [.d (.int .i64 (cntT t)), .d (.int .i64 (depT t))]) := by
  refine Tm.walk (P := fun t => Light t 400 → VFun (P ()) 11 [tm t] (fun r => r = .tup [.d (.int .i64 (cntT t)), .d (.int .i64 (depT t))])) ?_ t
  clear t
  intro op n s k C N W Q m ok K G hG e ih hl
  obtain ⟨l1, l2, l3, l4⟩ := hl.kid
  have hc := Nat.le_trans (cntT_le _) hl.1
  have hd := Nat.le_trans (depT_le _) hl.1
  rw [e]
  rw [cntT_nd] at hc ⊢
  rw [depT_nd] at hd ⊢
  clear e
  refine vfunO (Tf := fun {_} _ => fzT [1] (T ())) (fun {_} => tabOk.frz [1]) [] 400 Tryz.func11 rfl (fun {_} => by kernel_rfl) rfl (Nat.le_of_ble_eq_true rfl) @fun ⟨_, _, _, _, _, _, _, _, _, _, _, _, _, _, _, _, _, _, _, _, _, _, _, _, _, _, _, _, _, _, _, _, _, _, _, _, _, _, wp, wf⟩ R hR => ?_
  cbv
  try simp only [wp, (show ∀ n : Nat, _ = n from fun n => wf.2.2.2.2.2.2.2.2.2.2.2.2.2.1 (Int.ofNat n)), getL, takeL, dropL, TK.isAgg, reduceIte]
  replace hR := fun H => hR _ H (.tup [.d (.int .i64 ((sumF (fun i => cntT (K i)) m + 1 : Nat) : Int)), .d (.int .i64 ((maxF (fun i => depT (K i)) m + 1 : Nat) : Int))]) (.tup2 (.d _) (.d _)) rfl
  obtain ⟨cK, hcK⟩ : ∃ cK : Nat → Nat, ∀ i, cK i = cntT (K i) := ⟨_, fun _ => rfl⟩
  obtain ⟨dK, hdK⟩ : ∃ dK : Nat → Nat, ∀ i, dK i = depT (K i) := ⟨_, fun _ => rfl⟩
  simp only [← hcK, ← hdK] at hc hd hR ih
  clear hcK hdK
  obtain ⟨sF, hsF⟩ : ∃ sF, sF = sumF (fun i => cK i) := ⟨_, rfl⟩
  obtain ⟨dF, hdF⟩ : ∃ dF, dF = maxF (fun i => dK i) := ⟨_, rfl⟩
  have s0 : sF 0 = 0 := by rw [hsF]; rfl
  have d0 : dF 0 = 0 := by rw [hdF]; rfl
  have s1 : ∀ i, sF (i + 1) = sF i + cK i := fun i => by rw [hsF]; rfl
  have d1 : ∀ i, dF (i + 1) = max (dF i) (dK i) := fun i => by rw [hdF]; rfl
  have s2 : ∀ i, i ≤ m → sF i ≤ sF m := fun i h => by rw [hsF]; exact sumF_le h
  have d2 : ∀ i, i ≤ m → dF i ≤ dF m := fun i h => by rw [hdF]; exact maxF_le h
  rw [← hsF] at hc hR
  rw [← hdF] at hd hR
  clear hsF hdF
  obtain ⟨nF, hnF⟩ : ∃ nF : Nat → Nat, ∀ i, nF i = 1 + sF i := ⟨_, fun _ => rfl⟩
  refine loopO (Tf := fun {_} _ => fzT [1] (T ())) (fun {_} => tabOk.frz [1]) [] 400 (fun i : Nat => ⟨[.undef, .iptr (fun x j => getL [.int .i64 op, .int .i64 n, .str s, .sl k 2 (lsF C N W Q), .sl m 5 G] j .nilp) 0 0 5, .d (.int .i64 0), .d (.int .i64 0), .d (.int .i64 (nF i : Nat)), .d (.int .i64 (dF i : Nat)), .d (.int .i64 i), .undef, .undef, .undef, .undef, .undef, .undef, .undef, .undef, .undef, .undef, .undef, .undef, .undef, .undef, .undef, .undef, .undef, .undef, .undef, .undef, .undef, .undef, .undef, .undef, .undef, .undef, .undef], []⟩) (fun i => m - i) (fun i => i ≤ m) 0 (Nat.zero_le _) (fun {_} => by kernel_rfl) ?_ (fun i => by kernel_rfl) @fun ⟨_, _, _, _, _, _, _, _, _, _, _, _, _, _, _, _, _, _, _, _, _, _, _, _, _, _, _, _, _, _, _, _, _, _, _, _, _, _, wpa, wfa⟩ i Bk hi hBk => ?_
  · (cbv; try simp only [wf, exD, exL, exT, exB, exA, leLs, leL_d, leL_undef, leL_nils, leA_nils, deq_refl, deq_int, deq_bool, deq_str, and_true, true_and, AObj.iter.injEq, nc, nc']; try simp (disch := omega) only [w64, w32, wu8])
    rw [hnF, s0, d0]
    exact ⟨rfl, rfl, rfl⟩
  (cbv; try simp only [wp, (show ∀ n : Nat, _ = n from fun n => wf.2.2.2.2.2.2.2.2.2.2.2.2.2.1 (Int.ofNat n)), (show _ = (0 : Nat) from wf.2.2.2.2.2.2.2.2.2.2.2.2.2.1 0), wpa, (show ∀ n : Nat, _ = n from fun n => wfa.2.2.2.2.2.2.2.2.2.2.2.2.2.1 (Int.ofNat n)), (show _ = (0 : Nat) from wfa.2.2.2.2.2.2.2.2.2.2.2.2.2.1 0), getL, takeL, dropL, TK.isAgg, reduceIte])
  refine ⟨fun e1 => ?_, fun e1 => ?_⟩
  · have e1 : i < m := (by (try simp only [wf, wfa, nc, nc', Int.toNat_natCast, bsz, ByteArray.size_append, List.length_cons, List.length_nil] at *); (try simp (disch := omega) only [w64, w32, wu8] at *); first | done | omega)
    have ihi := ih i e1 (l4 i e1)
    rw [hG i e1] at ihi
    have q1 := s1 i
    have q2 := d1 i
    have q3 := s2 (i + 1) e1
    have q4 := d2 (i + 1) e1
    have q5 := hnF i
    have q6 := hnF (i + 1)
    (refine Later.mk ?_; cbv; try simp only [wp, (show ∀ n : Nat, _ = n from fun n => wf.2.2.2.2.2.2.2.2.2.2.2.2.2.1 (Int.ofNat n)), (show _ = (0 : Nat) from wf.2.2.2.2.2.2.2.2.2.2.2.2.2.1 0), wpa, (show ∀ n : Nat, _ = n from fun n => wfa.2.2.2.2.2.2.2.2.2.2.2.2.2.1 (Int.ofNat n)), (show _ = (0 : Nat) from wfa.2.2.2.2.2.2.2.2.2.2.2.2.2.1 0), getL, takeL, dropL, TK.isAgg, reduceIte])
    repeat' first | with_reducible refine And.intro ?_ ?_ | intro c9
    all_goals first | exact (by (try simp only [wf, wfa, nc, nc', Int.toNat_natCast, bsz, ByteArray.size_append, List.length_cons, List.length_nil] at *); (try simp (disch := omega) only [w64, w32, wu8] at *); first | done | omega) | trivial | skip
    refine ihi.call ?_
    rintro _ rfl
    (cbv; try simp only [wp, (show ∀ n : Nat, _ = n from fun n => wf.2.2.2.2.2.2.2.2.2.2.2.2.2.1 (Int.ofNat n)), (show _ = (0 : Nat) from wf.2.2.2.2.2.2.2.2.2.2.2.2.2.1 0), wpa, (show ∀ n : Nat, _ = n from fun n => wfa.2.2.2.2.2.2.2.2.2.2.2.2.2.1 (Int.ofNat n)), (show _ = (0 : Nat) from wfa.2.2.2.2.2.2.2.2.2.2.2.2.2.1 0), getL, takeL, dropL, TK.isAgg, reduceIte])
    repeat' first | with_reducible refine And.intro ?_ ?_ | intro c9
    all_goals first | exact (by (try simp only [wf, wfa, nc, nc', Int.toNat_natCast, bsz, ByteArray.size_append, List.length_cons, List.length_nil] at *); (try simp (disch := omega) only [w64, w32, wu8] at *); first | done | omega) | trivial | skip
    all_goals
      refine hBk (i + 1) _ (by omega) (by omega) ?_
      (cbv; try simp only [wf, wfa, exD, exL, exT, exB, exA, leLs, leL_d, leL_undef, leL_nils, leA_nils, deq_refl, deq_int, deq_bool, deq_str, and_true, true_and, AObj.iter.injEq, nc, nc']; try simp (disch := omega) only [w64, w32, wu8])
      ((try simp only [wf, wfa, nc, nc', Int.toNat_natCast, bsz, ByteArray.size_append, List.length_cons, List.length_nil] at *); (try simp (disch := omega) only [w64, w32, wu8] at *))
      exact ⟨by omega, by split <;> omega, by omega⟩
  · obtain rfl : i = m := (by (try simp only [wf, wfa, nc, nc', Int.toNat_natCast, bsz, ByteArray.size_append, List.length_cons, List.length_nil] at *); (try simp (disch := omega) only [w64, w32, wu8] at *); first | done | omega)
    (refine Later.mk ?_; cbv; try simp only [wp, (show ∀ n : Nat, _ = n from fun n => wf.2.2.2.2.2.2.2.2.2.2.2.2.2.1 (Int.ofNat n)), (show _ = (0 : Nat) from wf.2.2.2.2.2.2.2.2.2.2.2.2.2.1 0), wpa, (show ∀ n : Nat, _ = n from fun n => wfa.2.2.2.2.2.2.2.2.2.2.2.2.2.1 (Int.ofNat n)), (show _ = (0 : Nat) from wfa.2.2.2.2.2.2.2.2.2.2.2.2.2.1 0), getL, takeL, dropL, TK.isAgg, reduceIte])
    ((try simp only [wf, wfa, nc, nc', Int.toNat_natCast, bsz, ByteArray.size_append, List.length_cons, List.length_nil] at *); (try simp (disch := omega) only [w64, w32, wu8] at *))
    rw [hnF, Nat.add_comm 1]
    exact hR _
end Go.VM
