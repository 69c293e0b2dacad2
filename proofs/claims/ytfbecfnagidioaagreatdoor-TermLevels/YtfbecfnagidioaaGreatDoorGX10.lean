/- Part of the proof: LB9. -/
import Derived.Test.YtfbecfnagidioaaGreatDoorGX9
namespace Go.VM
open Go.Proofs Go
set_option maxRecDepth 100000
set_option linter.unusedVariables false
set_option linter.unusedSimpArgs false
theorem lref (o a b c : Nat) : leL (.ref o a b c) (.ref o a b c) := rfl
theorem row1 (v p : Int) (i j : Nat) (hi : i < 1) (hj : j < 2) : rowF 2 [.int .i64 v, .int .i64 p] i j = lvF (fun _ => v) (fun _ => p) i j := by
  obtain rfl : i = 0 := by omega
  match j, hj with
  | 0, _ => rfl
  | 1, _ => rfl
set_option maxHeartbeats 4000000 in
theorem Subst (c : Int) (n : Nat) (V P0 : Nat → Int) (m : Nat) (C : Nat → Int) (N : Nat → Nat) (W Q : Nat → Nat → Int) (hn : n < 2 ^ 63) (hm : m < 2 ^ 63) (hN : ∀ i, i < m → N i < 2 ^ 63) : VFun (P ()) 47 [lv c n V P0, .d (.sl m 2 (lsF C N W Q))] (SubR c n V P0 m C N W Q) := by
  refine vfunO (Tf := fun {_} _ => fzT [2] (T ())) (fun {_} => tabOk.frz [2]) [(20, upF 0 11)] 400 Tryz.func47 rfl (fun {_} => by kernel_rfl) rfl (Nat.le_of_ble_eq_true rfl) @fun ⟨_, _, _, _, _, _, _, _, _, _, _, _, _, _, _, _, _, _, _, _, _, _, _, _, _, _, _, _, _, _, _, _, _, _, _, _, _, _, wp, wf⟩ R hR => ?_
  cbv
  try simp only [wp, (show ∀ n : Nat, _ = n from fun n => wf.2.2.2.2.2.2.2.2.2.2.2.2.2.1 (Int.ofNat n)), getL, takeL, dropL, TK.isAgg, reduceIte]
  refine (Valid c n V P0 hn).call ?_
  rintro _ ⟨b, hb, rfl⟩
  rcases hb.dich with ⟨rfl, v⟩ | ⟨rfl, v⟩ <;> clear hb <;> (cbv; try simp only [wp, (show ∀ n : Nat, _ = n from fun n => wf.2.2.2.2.2.2.2.2.2.2.2.2.2.1 (Int.ofNat n)), (show _ = (0 : Nat) from wf.2.2.2.2.2.2.2.2.2.2.2.2.2.1 0), getL, takeL, dropL, TK.isAgg, reduceIte])
  all_goals (refine Later.mk ?_; cbv; try simp only [wp, (show ∀ n : Nat, _ = n from fun n => wf.2.2.2.2.2.2.2.2.2.2.2.2.2.1 (Int.ofNat n)), (show _ = (0 : Nat) from wf.2.2.2.2.2.2.2.2.2.2.2.2.2.1 0), getL, takeL, dropL, TK.isAgg, reduceIte])
  · have h8 := v.2.2.1
    have h0 := v.1
    have hv0 : ∀ i, i < n → 0 ≤ V i := fun i hi => (v.2.2.2 i hi).1
    repeat' first | trivial | with_reducible refine And.intro ?_ ?_ | intro c9
    refine loopO (Tf := fun {_} _ => fzT [2] (T ())) (fun {_} => tabOk.frz [2]) [(20, upF 0 11)] 400 (fun i : Nat => ⟨[.undef, .d (.sl m 2 (lsF C N W Q)), .iptr (fun x j => getL [.int .i64 c, .sl n 2 (lvF V P0)] j .nilp) 0 0 2, .undef, .ptr 0 0, .d (.int .i64 0), .undef, .undef, .undef, .undef, .undef, .undef, .undef, .undef, .undef, .undef, .undef, .undef, .undef, .undef, .d (.sl n 2 (lvF V P0)), .d (.int .i64 n), .d (.int .i64 i), .undef, .undef, .undef, .undef, .undef, .undef, .undef, .undef, .undef, .undef, .undef, .undef, .undef, .undef, .undef, .undef, .undef, .undef, .undef, .undef, .undef, .undef, .undef, .undef, .undef, .undef, .undef, .undef, .undef, .undef, .undef, .undef, .undef, .undef, .undef, .undef, .undef, .undef, .undef, .undef, .undef, .undef, .undef, .undef, .undef, .undef, .undef, .undef, .undef, .undef, .undef, .undef, .undef, .undef, .undef, .undef, .undef, .undef, .undef, .undef, .undef, .undef, .undef, .undef, .undef, .undef, .undef, .undef, .undef, .undef, .undef, .undef, .undef, .undef, .undef, .undef, .undef, .undef, .undef], [.box [.d (.int .i64 0), .d (.sl 0 2 (lvF V P0))]]⟩) (fun i => n - i) (fun i => i ≤ n ∧ ∀ j, j < i → V j < m → ValidP (C (V j).toNat) (N (V j).toNat) (W (V j).toNat) (Q (V j).toNat)) 0 ⟨Nat.zero_le _, fun k hk => absurd hk (Nat.not_lt_zero _)⟩ (fun {_} => by kernel_rfl) ?_ (fun i => by kernel_rfl) @fun ⟨_, _, _, _, _, _, _, _, _, _, _, _, _, _, _, _, _, _, _, _, _, _, _, _, _, _, _, _, _, _, _, _, _, _, _, _, _, _, wpa, wfa⟩ i Bk hi hBk => ?_
    · ((cbv; try simp only [wf, exD, exL, exT, exB, exA, leLs, leL_d, leL_undef, leL_nils, leA_nils, deq_refl, deq_int, deq_bool, deq_str, and_true, true_and, AObj.iter.injEq, nc, nc']; try simp (disch := omega) only [w64, w32, wu8]); first | done | rfl | omega | (simp; done) | (simp; omega) | skip)
    obtain ⟨i1, i5⟩ := hi
    (cbv; try simp only [wp, (show ∀ n : Nat, _ = n from fun n => wf.2.2.2.2.2.2.2.2.2.2.2.2.2.1 (Int.ofNat n)), (show _ = (0 : Nat) from wf.2.2.2.2.2.2.2.2.2.2.2.2.2.1 0), wpa, (show ∀ n : Nat, _ = n from fun n => wfa.2.2.2.2.2.2.2.2.2.2.2.2.2.1 (Int.ofNat n)), (show _ = (0 : Nat) from wfa.2.2.2.2.2.2.2.2.2.2.2.2.2.1 0), getL, takeL, dropL, TK.isAgg, reduceIte])
    refine ⟨fun e => ?_, fun e => ?_⟩
    · have e : i < n := (by (try simp only [wf, wfa, nc, nc', Int.toNat_natCast, bsz, ByteArray.size_append, List.length_cons, List.length_nil] at *); (try simp (disch := omega) only [w64, w32, wu8] at *); first | done | omega)
      have hv0i := hv0 i e
      obtain ⟨z, hz⟩ : ∃ z, z = (V i).toNat := ⟨_, rfl⟩
      (refine Later.mk ?_; cbv; try simp only [wp, (show ∀ n : Nat, _ = n from fun n => wf.2.2.2.2.2.2.2.2.2.2.2.2.2.1 (Int.ofNat n)), (show _ = (0 : Nat) from wf.2.2.2.2.2.2.2.2.2.2.2.2.2.1 0), wpa, (show ∀ n : Nat, _ = n from fun n => wfa.2.2.2.2.2.2.2.2.2.2.2.2.2.1 (Int.ofNat n)), (show _ = (0 : Nat) from wfa.2.2.2.2.2.2.2.2.2.2.2.2.2.1 0), getL, takeL, dropL, TK.isAgg, reduceIte])
      repeat' first | with_reducible refine And.intro ?_ ?_ | intro c9
      all_goals first | exact (by (try simp only [wf, wfa, nc, nc', Int.toNat_natCast, bsz, ByteArray.size_append, List.length_cons, List.length_nil] at *); (try simp (disch := omega) only [w64, w32, wu8] at *); first | done | omega) | trivial | skip
      · have hV : V i < m := (by (try simp only [wf, wfa, nc, nc', Int.toNat_natCast, bsz, ByteArray.size_append, List.length_cons, List.length_nil] at *); (try simp (disch := omega) only [w64, w32, wu8] at *); first | done | omega)
        have key6 : SubP c n V P0 m C N W Q → ValidP (C (V i).toNat) (N (V i).toNat) (W (V i).toNat) (Q (V i).toNat) := fun h => h.2 i e hV
        have hNi := hN (V i).toNat (by omega)
        rw [← hz] at hNi key6
        refine (Valid _ _ _ _ (by ((try simp only [wf, wfa, nc, nc', Int.toNat_natCast, bsz, ByteArray.size_append, List.length_cons, List.length_nil] at *); (try simp (disch := omega) only [w64, w32, wu8] at *)); rw [← hz]; exact hNi)).call ?_
        rintro _ ⟨b, hb, rfl⟩
        rcases hb.dich with ⟨rfl, v'⟩ | ⟨rfl, v'⟩ <;> clear hb <;> (cbv; try simp only [wp, (show ∀ n : Nat, _ = n from fun n => wf.2.2.2.2.2.2.2.2.2.2.2.2.2.1 (Int.ofNat n)), (show _ = (0 : Nat) from wf.2.2.2.2.2.2.2.2.2.2.2.2.2.1 0), wpa, (show ∀ n : Nat, _ = n from fun n => wfa.2.2.2.2.2.2.2.2.2.2.2.2.2.1 (Int.ofNat n)), (show _ = (0 : Nat) from wfa.2.2.2.2.2.2.2.2.2.2.2.2.2.1 0), getL, takeL, dropL, TK.isAgg, reduceIte]) <;> (refine Later.mk ?_; cbv; try simp only [wp, (show ∀ n : Nat, _ = n from fun n => wf.2.2.2.2.2.2.2.2.2.2.2.2.2.1 (Int.ofNat n)), (show _ = (0 : Nat) from wf.2.2.2.2.2.2.2.2.2.2.2.2.2.1 0), wpa, (show ∀ n : Nat, _ = n from fun n => wfa.2.2.2.2.2.2.2.2.2.2.2.2.2.1 (Int.ofNat n)), (show _ = (0 : Nat) from wfa.2.2.2.2.2.2.2.2.2.2.2.2.2.1 0), getL, takeL, dropL, TK.isAgg, reduceIte])
        · refine hBk (i + 1) _ (by omega) ⟨by omega, fun j hj hj2 => ?_⟩ ?_
          · by_cases e2 : j = i
            · subst e2
              ((try simp only [wf, wfa, nc, nc', Int.toNat_natCast, bsz, ByteArray.size_append, List.length_cons, List.length_nil] at *); (try simp (disch := omega) only [w64, w32, wu8] at *))
              exact v'
            · exact i5 j (by omega) hj2
          · ((cbv; try simp only [wf, wfa, exD, exL, exT, exB, exA, leLs, leL_d, leL_undef, leL_nils, leA_nils, deq_refl, deq_int, deq_bool, deq_str, and_true, true_and, AObj.iter.injEq, nc, nc']; try simp (disch := omega) only [w64, w32, wu8]); first | done | rfl | omega | (simp; done) | (simp; omega) | skip)
        · repeat' first | trivial | with_reducible refine And.intro ?_ ?_ | intro c9
          all_goals exact hR _ _ _ (frz_err 4 _) (.inl ⟨fun h => v' (by have h7 := key6 h; ((try simp only [wf, wfa, nc, nc', Int.toNat_natCast, bsz, ByteArray.size_append, List.length_cons, List.length_nil] at *); (try simp (disch := omega) only [w64, w32, wu8] at *)); rw [← hz]; exact h7), .err 4⟩)
      · have hV : ¬ V i < m := (by (try simp only [wf, wfa, nc, nc', Int.toNat_natCast, bsz, ByteArray.size_append, List.length_cons, List.length_nil] at *); (try simp (disch := omega) only [w64, w32, wu8] at *); first | done | omega)
        (refine Later.mk ?_; cbv; try simp only [wp, (show ∀ n : Nat, _ = n from fun n => wf.2.2.2.2.2.2.2.2.2.2.2.2.2.1 (Int.ofNat n)), (show _ = (0 : Nat) from wf.2.2.2.2.2.2.2.2.2.2.2.2.2.1 0), wpa, (show ∀ n : Nat, _ = n from fun n => wfa.2.2.2.2.2.2.2.2.2.2.2.2.2.1 (Int.ofNat n)), (show _ = (0 : Nat) from wfa.2.2.2.2.2.2.2.2.2.2.2.2.2.1 0), getL, takeL, dropL, TK.isAgg, reduceIte])
        refine hBk (i + 1) _ (by omega) ⟨by omega, fun j hj hj2 => ?_⟩ ?_
        · by_cases e2 : j = i
          · subst e2; exact absurd hj2 hV
          · exact i5 j (by omega) hj2
        · ((cbv; try simp only [wf, wfa, exD, exL, exT, exB, exA, leLs, leL_d, leL_undef, leL_nils, leA_nils, deq_refl, deq_int, deq_bool, deq_str, and_true, true_and, AObj.iter.injEq, nc, nc']; try simp (disch := omega) only [w64, w32, wu8]); first | done | rfl | omega | (simp; done) | (simp; omega) | skip)
    · obtain rfl : n = i := (by (try simp only [wf, wfa, nc, nc', Int.toNat_natCast, bsz, ByteArray.size_append, List.length_cons, List.length_nil] at *); (try simp (disch := omega) only [w64, w32, wu8] at *); first | done | omega)
      (refine Later.mk ?_; cbv; try simp only [wp, (show ∀ n : Nat, _ = n from fun n => wf.2.2.2.2.2.2.2.2.2.2.2.2.2.1 (Int.ofNat n)), (show _ = (0 : Nat) from wf.2.2.2.2.2.2.2.2.2.2.2.2.2.1 0), wpa, (show ∀ n : Nat, _ = n from fun n => wfa.2.2.2.2.2.2.2.2.2.2.2.2.2.1 (Int.ofNat n)), (show _ = (0 : Nat) from wfa.2.2.2.2.2.2.2.2.2.2.2.2.2.1 0), getL, takeL, dropL, TK.isAgg, reduceIte])
      repeat' first | trivial | with_reducible refine And.intro ?_ ?_ | intro c9
      clear hBk
      refine (Sorted _ V P0 h8).call ?_
      rintro _ ⟨V', P', h1, h2, rfl⟩
      (cbv; try simp only [wp, (show ∀ n : Nat, _ = n from fun n => wf.2.2.2.2.2.2.2.2.2.2.2.2.2.1 (Int.ofNat n)), (show _ = (0 : Nat) from wf.2.2.2.2.2.2.2.2.2.2.2.2.2.1 0), wpa, (show ∀ n : Nat, _ = n from fun n => wfa.2.2.2.2.2.2.2.2.2.2.2.2.2.1 (Int.ofNat n)), (show _ = (0 : Nat) from wfa.2.2.2.2.2.2.2.2.2.2.2.2.2.1 0), getL, takeL, dropL, TK.isAgg, reduceIte])
      repeat' first | trivial | with_reducible refine And.intro ?_ ?_ | intro c9
      have hs : ∀ j, j < n → 0 ≤ V' j ∧ 0 ≤ P' j ∧ P' j ≤ 1000 ∧ (V' j < m → ValidP (C (V' j).toNat) (N (V' j).toNat) (W (V' j).toNat) (Q (V' j).toNat)) := fun j hj => by
        obtain ⟨l, hl, e⟩ := lst_mem.1 (h1.mem_iff.1 (lst_mem.2 ⟨j, hj, rfl⟩))
        obtain ⟨p1, p2, p3, p4, _⟩ := v.2.2.2 l hl
        obtain ⟨e1, e2⟩ := Prod.mk.inj e
        rw [e1, e2]
        exact ⟨p1, p3, p4, i5 l hl⟩
      refine loopO (Tf := fun {_} _ => fzT [2] (T ())) (fun {_} => tabOk.frz [2]) [(20, upF 0 11)] 400 (fun y : Uy => ⟨[.undef, .d (.sl m 2 (lsF C N W Q)), .undef, .undef, .ptr 0 0, .d (.int .i64 0), .undef, .undef, .d (.int .i64 y.c), .d (.sl y.k 2 (lvF y.V y.P)), .undef, .undef, .undef, .undef, .undef, .undef, .undef, .undef, .undef, .undef, .undef, .undef, .undef, .undef, .undef, .undef, .undef, .undef, .undef, .undef, .undef, .undef, .undef, .undef, .undef, .undef, .undef, .undef, .undef, .undef, .undef, .undef, .undef, .undef, .undef, .undef, .d (.sl n 2 (lvF V' P')), .d (.int .i64 n), .d (.int .i64 y.i), .undef, .undef, .undef, .undef, .undef, .undef, .undef, .undef, .undef, .undef, .undef, .undef, .undef, .undef, .undef, .undef, .undef, .undef, .undef, .undef, .undef, .undef, .undef, .undef, .undef, .undef, .undef, .undef, .undef, .undef, .undef, .undef, .undef, .undef, .undef, .undef, .undef, .undef, .undef, .undef, .undef, .undef, .undef, .undef, .undef, .undef, .undef, .undef, .undef, .undef, .undef, .undef, .undef], [.box [.d (.int .i64 0), .d (.sl 0 2 (lvF V P0))]]⟩) (fun y => n - y.i) (fun y => y.i ≤ n ∧ y.k ≤ 8 * y.i ∧ asc (lst y.V y.P y.k) ∧ (∀ v, mx (lst y.V y.P y.k) v = mx (big m (fun i => lst (W i) (Q i) (N i)) (lst V' P' y.i)) v) ∧ ScOk m C c (lst V' P' y.i) y.c) ⟨0, 0, c, V, P0⟩ ⟨Nat.zero_le _, Nat.zero_le _, by simp [asc, lst], fun v => rfl, .nil m C c⟩ (fun {_} => by kernel_rfl) ?_ (fun i => by kernel_rfl) @fun ⟨_, _, _, _, _, _, _, _, _, _, _, _, _, _, _, _, _, _, _, _, _, _, _, _, _, _, _, _, _, _, _, _, _, _, _, _, _, _, wpb, wfb⟩ ⟨i, k, c1, V1, P1⟩ Bk hi hBk => ?_
      · ((cbv; try simp only [wf, wfa, exD, exL, exT, exB, exA, leLs, leL_d, leL_undef, leL_nils, leA_nils, deq_refl, deq_int, deq_bool, deq_str, and_true, true_and, AObj.iter.injEq, nc, nc']; try simp (disch := omega) only [w64, w32, wu8]); first | done | rfl | omega | (simp; done) | (simp; omega) | skip)
      obtain ⟨j1, j2, j3, j4, j5⟩ := hi
      dsimp only at j1 j2 j3 j4 j5
      (cbv; try simp only [wp, (show ∀ n : Nat, _ = n from fun n => wf.2.2.2.2.2.2.2.2.2.2.2.2.2.1 (Int.ofNat n)), (show _ = (0 : Nat) from wf.2.2.2.2.2.2.2.2.2.2.2.2.2.1 0), wpa, (show ∀ n : Nat, _ = n from fun n => wfa.2.2.2.2.2.2.2.2.2.2.2.2.2.1 (Int.ofNat n)), (show _ = (0 : Nat) from wfa.2.2.2.2.2.2.2.2.2.2.2.2.2.1 0), wpb, (show ∀ n : Nat, _ = n from fun n => wfb.2.2.2.2.2.2.2.2.2.2.2.2.2.1 (Int.ofNat n)), (show _ = (0 : Nat) from wfb.2.2.2.2.2.2.2.2.2.2.2.2.2.1 0), getL, takeL, dropL, TK.isAgg, reduceIte])
      refine ⟨fun e => ?_, fun e => ?_⟩
      · have e : i < n := (by (try simp only [wf, wfa, wfb, nc, nc', Int.toNat_natCast, bsz, ByteArray.size_append, List.length_cons, List.length_nil] at *); (try simp (disch := omega) only [w64, w32, wu8] at *); first | done | omega)
        obtain ⟨s1, s2, s3, s4⟩ := hs i e
        (refine Later.mk ?_; cbv; try simp only [wp, (show ∀ n : Nat, _ = n from fun n => wf.2.2.2.2.2.2.2.2.2.2.2.2.2.1 (Int.ofNat n)), (show _ = (0 : Nat) from wf.2.2.2.2.2.2.2.2.2.2.2.2.2.1 0), wpa, (show ∀ n : Nat, _ = n from fun n => wfa.2.2.2.2.2.2.2.2.2.2.2.2.2.1 (Int.ofNat n)), (show _ = (0 : Nat) from wfa.2.2.2.2.2.2.2.2.2.2.2.2.2.1 0), wpb, (show ∀ n : Nat, _ = n from fun n => wfb.2.2.2.2.2.2.2.2.2.2.2.2.2.1 (Int.ofNat n)), (show _ = (0 : Nat) from wfb.2.2.2.2.2.2.2.2.2.2.2.2.2.1 0), getL, takeL, dropL, TK.isAgg, reduceIte])
        repeat' first | with_reducible refine And.intro ?_ ?_ | intro c9
        all_goals first | exact (by (try simp only [wf, wfa, wfb, nc, nc', Int.toNat_natCast, bsz, ByteArray.size_append, List.length_cons, List.length_nil] at *); (try simp (disch := omega) only [w64, w32, wu8] at *); first | done | omega) | trivial | skip
        · have hV : V' i < m := (by (try simp only [wf, wfa, wfb, nc, nc', Int.toNat_natCast, bsz, ByteArray.size_append, List.length_cons, List.length_nil] at *); (try simp (disch := omega) only [w64, w32, wu8] at *); first | done | omega)
          obtain ⟨z, hz⟩ : ∃ z, z = (V' i).toNat := ⟨_, rfl⟩
          have hz2 : V' i = z := by omega
          have v2 := s4 hV
          rw [← hz] at v2
          have hb : ∀ j, j < N z → 0 ≤ Q z j ∧ Q z j ≤ 1000 := fun j hj => ⟨(v2.2.2.2 j hj).2.2.1, (v2.2.2.2 j hj).2.2.2.1⟩
          have hN8 := v2.2.2.1
          have hC := v2.2.1
          have hC0 := v2.1
          (refine Later.mk ?_; cbv; try simp only [wp, (show ∀ n : Nat, _ = n from fun n => wf.2.2.2.2.2.2.2.2.2.2.2.2.2.1 (Int.ofNat n)), (show _ = (0 : Nat) from wf.2.2.2.2.2.2.2.2.2.2.2.2.2.1 0), wpa, (show ∀ n : Nat, _ = n from fun n => wfa.2.2.2.2.2.2.2.2.2.2.2.2.2.1 (Int.ofNat n)), (show _ = (0 : Nat) from wfa.2.2.2.2.2.2.2.2.2.2.2.2.2.1 0), wpb, (show ∀ n : Nat, _ = n from fun n => wfb.2.2.2.2.2.2.2.2.2.2.2.2.2.1 (Int.ofNat n)), (show _ = (0 : Nat) from wfb.2.2.2.2.2.2.2.2.2.2.2.2.2.1 0), getL, takeL, dropL, TK.isAgg, reduceIte])
          repeat' first | with_reducible refine And.intro ?_ ?_ | intro c9
          all_goals first | exact (by (try simp only [wf, wfa, wfb, nc, nc', Int.toNat_natCast, bsz, ByteArray.size_append, List.length_cons, List.length_nil] at *); (try simp (disch := omega) only [w64, w32, wu8] at *); first | done | omega) | trivial | skip
          refine CallW.within (SortedO _ _ _ (by ((try simp only [wf, wfa, wfb, nc, nc', Int.toNat_natCast, bsz, ByteArray.size_append, List.length_cons, List.length_nil] at *); (try simp (disch := omega) only [w64, w32, wu8] at *)); rw [← hz]; exact hN8)) [] rfl trivial rfl ?_
          rintro _ _ ⟨V2, P2, g1, g2, rfl, rfl⟩
          refine ⟨[_], [], rfl, Nat.zero_le _, ⟨Nat.zero_le _, trivial⟩, rfl, ?_⟩
          (cbv; try simp only [wp, (show ∀ n : Nat, _ = n from fun n => wf.2.2.2.2.2.2.2.2.2.2.2.2.2.1 (Int.ofNat n)), (show _ = (0 : Nat) from wf.2.2.2.2.2.2.2.2.2.2.2.2.2.1 0), wpa, (show ∀ n : Nat, _ = n from fun n => wfa.2.2.2.2.2.2.2.2.2.2.2.2.2.1 (Int.ofNat n)), (show _ = (0 : Nat) from wfa.2.2.2.2.2.2.2.2.2.2.2.2.2.1 0), wpb, (show ∀ n : Nat, _ = n from fun n => wfb.2.2.2.2.2.2.2.2.2.2.2.2.2.1 (Int.ofNat n)), (show _ = (0 : Nat) from wfb.2.2.2.2.2.2.2.2.2.2.2.2.2.1 0), getL, takeL, dropL, TK.isAgg, reduceIte])
          repeat' first | with_reducible refine And.intro ?_ ?_ | intro c9
          all_goals first | exact (by (try simp only [wf, wfa, wfb, nc, nc', Int.toNat_natCast, bsz, ByteArray.size_append, List.length_cons, List.length_nil] at *); (try simp (disch := omega) only [w64, w32, wu8] at *); first | done | omega) | trivial | skip
          have hb2 : ∀ j, j < N z → 0 ≤ P2 j ∧ P2 j ≤ 1000 := fun j hj => by
            have g1 : (lst V2 P2 (N z)).Perm (lst (W z) (Q z) (N z)) := by
              ((try simp only [wf, wfa, wfb, nc, nc', Int.toNat_natCast, bsz, ByteArray.size_append, List.length_cons, List.length_nil] at *); (try simp (disch := omega) only [w64, w32, wu8] at *))
              rw [← hz] at g1
              exact g1
            obtain ⟨l, hl, e⟩ := lst_mem.1 (g1.mem_iff.1 (lst_mem.2 ⟨j, hj, rfl⟩))
            rw [(Prod.mk.inj e).2]
            exact hb l hl
          obtain ⟨N0, hN0⟩ : ∃ N0, N0 = N z := ⟨_, rfl⟩
          have g1' : (lst V2 P2 N0).Perm (lst (W z) (Q z) N0) := by
            ((try simp only [wf, wfa, wfb, nc, nc', Int.toNat_natCast, bsz, ByteArray.size_append, List.length_cons, List.length_nil] at *); (try simp (disch := omega) only [w64, w32, wu8] at *))
            rw [← hz, ← hN0] at g1
            exact g1
          have g2' : upTo V2 N0 := by
            ((try simp only [wf, wfa, wfb, nc, nc', Int.toNat_natCast, bsz, ByteArray.size_append, List.length_cons, List.length_nil] at *); (try simp (disch := omega) only [w64, w32, wu8] at *))
            rw [← hz, ← hN0] at g2
            exact g2
          have hqa : asc (lst V2 P2 N0) := sorted_asc g1' (fun i k a b => (v2.2.2.2 i (by omega)).2.2.2.2 k a) g2'
          obtain ⟨c3, hc3⟩ : ∃ c3, c3 = max c1 (C z + P' i) := ⟨_, rfl⟩
          have hsc : ScOk m C c (lst V' P' (i + 1)) c3 := by
            have := j5.put (x := (V' i, P' i)) hV
            dsimp only at this
            rw [← hz, ← hc3] at this
            exact this
          have hq : ∀ v, mx (big1 m (fun i => lst (W i) (Q i) (N i)) (V' i, P' i)) v = mx ((lst V2 P2 N0).map fun x => (x.1, x.2 + P' i)) v := fun v => by
            unfold big1
            rw [if_pos hV]
            dsimp only
            rw [← hz, ← hN0]
            exact (mx_perm (g1'.map _) v).symm
          rw [← hN0] at hb2 hN8
          refine loopO (Tf := fun {_} _ => fzT [2] (T ())) (fun {_} => tabOk.frz [2]) [(20, upF 0 11)] 400 (fun j : Nat => ⟨[.undef, .d (.sl m 2 (lsF C N W Q)), .undef, .undef, .ptr 0 0, .d (.int .i64 0), .undef, .undef, .d (.int .i64 c1), .d (.sl k 2 (lvF V1 P1)), .undef, .ptr 1 0, .ptr 3 0, .ref 4 0 (N0) 2, .undef, .undef, .undef, .undef, .undef, .undef, .undef, .undef, .undef, .undef, .undef, .undef, .undef, .undef, .undef, .undef, .undef, .undef, .undef, .undef, .undef, .undef, .undef, .undef, .undef, .undef, .undef, .undef, .undef, .undef, .undef, .undef, .d (.sl n 2 (lvF V' P')), .d (.int .i64 n), .d (.int .i64 i), .undef, .undef, .undef, .undef, .undef, .undef, .undef, .undef, .undef, .undef, .undef, .undef, .undef, .undef, .undef, .undef, .undef, .undef, .undef, .undef, .undef, .undef, .d (.int .i64 (N0 : Nat)), .d (.int .i64 j), .undef, .undef, .undef, .undef, .undef, .undef, .undef, .undef, .undef, .undef, .undef, .undef, .undef, .undef, .undef, .undef, .undef, .undef, .undef, .undef, .undef, .undef, .undef, .undef, .undef, .undef, .undef, .undef, .undef], [.box [.d (.int .i64 0), .d (.sl 0 2 (lvF V P0))], .box [.d (.int .i64 (V' i)), .d (.int .i64 (P' i))], .arr 1 2 (lvF (fun _ => V' i) fun _ => 0) 0, .box [.d (.int .i64 (C z)), .d (.sl N0 2 (lvF (W z) (Q z)))], .arr (N0) 2 (lvF V2 (addU P2 (P' i) j)) 0]⟩) (fun j => N0 - j) (fun j => j ≤ N0) 0 (Nat.zero_le _) (fun {_} => by kernel_rfl) ?_ (fun i => by kernel_rfl) @fun ⟨_, _, _, _, _, _, _, _, _, _, _, _, _, _, _, _, _, _, _, _, _, _, _, _, _, _, _, _, _, _, _, _, _, _, _, _, _, _, wpc, wfc⟩ j Bk2 hj hBk2 => ?_
          · (cbv; try simp only [wf, wfa, wfb, exD, exL, exT, exB, exA, leLs, leL_d, leL_undef, leL_nils, leA_nils, deq_refl, deq_int, deq_bool, deq_str, and_true, true_and, AObj.iter.injEq, nc, nc']; try simp (disch := omega) only [w64, w32, wu8])
            ((try simp only [wf, wfa, wfb, nc, nc', Int.toNat_natCast, bsz, ByteArray.size_append, List.length_cons, List.length_nil] at *); (try simp (disch := omega) only [w64, w32, wu8] at *))
            rw [← hz, ← hN0]
            exact ⟨⟨rfl, rfl, rfl⟩, ⟨Nat.le_refl _, Nat.zero_le _, fun x j hx hj => .of_eq (row1 _ _ x j hx hj)⟩, ⟨rfl, .refl _⟩, rfl, Nat.le_refl _, Nat.zero_le _, fun x j hx hj => .of_eq (by match j, hj with | 0, _ => rfl | 1, _ => simp [lvF, addU])⟩
          have hA := addU_at P2 (P' i) j
          obtain ⟨pi, hpi⟩ : ∃ pi, pi = addU P2 (P' i) := ⟨_, rfl⟩
          rw [← hpi] at hA
          rw [← hpi] at hBk2 ⊢
          (cbv; try simp only [wp, (show ∀ n : Nat, _ = n from fun n => wf.2.2.2.2.2.2.2.2.2.2.2.2.2.1 (Int.ofNat n)), (show _ = (0 : Nat) from wf.2.2.2.2.2.2.2.2.2.2.2.2.2.1 0), wpa, (show ∀ n : Nat, _ = n from fun n => wfa.2.2.2.2.2.2.2.2.2.2.2.2.2.1 (Int.ofNat n)), (show _ = (0 : Nat) from wfa.2.2.2.2.2.2.2.2.2.2.2.2.2.1 0), wpb, (show ∀ n : Nat, _ = n from fun n => wfb.2.2.2.2.2.2.2.2.2.2.2.2.2.1 (Int.ofNat n)), (show _ = (0 : Nat) from wfb.2.2.2.2.2.2.2.2.2.2.2.2.2.1 0), wpc, (show ∀ n : Nat, _ = n from fun n => wfc.2.2.2.2.2.2.2.2.2.2.2.2.2.1 (Int.ofNat n)), (show _ = (0 : Nat) from wfc.2.2.2.2.2.2.2.2.2.2.2.2.2.1 0), getL, takeL, dropL, TK.isAgg, reduceIte])
          refine ⟨fun e2 => ?_, fun e2 => ?_⟩
          · have e2 : j < N0 := (by (try simp only [wf, wfa, wfb, wfc, nc, nc', Int.toNat_natCast, bsz, ByteArray.size_append, List.length_cons, List.length_nil] at *); (try simp (disch := omega) only [w64, w32, wu8] at *); first | done | omega)
            have := hb2 j e2
            (refine Later.mk ?_; cbv; try simp only [wp, (show ∀ n : Nat, _ = n from fun n => wf.2.2.2.2.2.2.2.2.2.2.2.2.2.1 (Int.ofNat n)), (show _ = (0 : Nat) from wf.2.2.2.2.2.2.2.2.2.2.2.2.2.1 0), wpa, (show ∀ n : Nat, _ = n from fun n => wfa.2.2.2.2.2.2.2.2.2.2.2.2.2.1 (Int.ofNat n)), (show _ = (0 : Nat) from wfa.2.2.2.2.2.2.2.2.2.2.2.2.2.1 0), wpb, (show ∀ n : Nat, _ = n from fun n => wfb.2.2.2.2.2.2.2.2.2.2.2.2.2.1 (Int.ofNat n)), (show _ = (0 : Nat) from wfb.2.2.2.2.2.2.2.2.2.2.2.2.2.1 0), wpc, (show ∀ n : Nat, _ = n from fun n => wfc.2.2.2.2.2.2.2.2.2.2.2.2.2.1 (Int.ofNat n)), (show _ = (0 : Nat) from wfc.2.2.2.2.2.2.2.2.2.2.2.2.2.1 0), getL, takeL, dropL, TK.isAgg, reduceIte])
            repeat' first | with_reducible refine And.intro ?_ ?_ | intro c9
            all_goals first | exact (by (try simp only [wf, wfa, wfb, wfc, nc, nc', Int.toNat_natCast, bsz, ByteArray.size_append, List.length_cons, List.length_nil] at *); (try simp (disch := omega) only [w64, w32, wu8] at *); first | done | omega) | trivial | skip
            refine hBk2 (j + 1) _ (by omega) (by omega) ?_
            (cbv; try simp only [wf, wfa, wfb, wfc, exD, exL, exT, exB, exA, leLs, leL_d, leL_undef, leL_nils, leA_nils, deq_refl, deq_int, deq_bool, deq_str, and_true, true_and, AObj.iter.injEq, nc, nc']; try simp (disch := omega) only [w64, w32, wu8])
            ((try simp only [wf, wfa, wfb, wfc, nc, nc', Int.toNat_natCast, bsz, ByteArray.size_append, List.length_cons, List.length_nil] at *); (try simp (disch := omega) only [w64, w32, wu8] at *))
            rw [hA]
            refine ⟨by omega, ⟨Nat.le_refl _, Nat.zero_le _, fun _ _ _ _ => trivial⟩, Nat.le_refl _, Nat.zero_le _, fun x j2 hx hj => .of_eq ?_⟩
            rw [hpi]
            exact addU_step V2 P2 (P' i) j x j2 hj
          · obtain rfl : j = N0 := (by (try simp only [wf, wfa, wfb, wfc, nc, nc', Int.toNat_natCast, bsz, ByteArray.size_append, List.length_cons, List.length_nil] at *); (try simp (disch := omega) only [w64, w32, wu8] at *); first | done | omega)
            have el : lst V2 (pi j) j = (lst V2 P2 j).map fun x => (x.1, x.2 + P' i) := by
              rw [← lst_add_map]
              exact lst_congr fun k hk => ⟨rfl, by rw [hpi]; exact if_pos hk⟩
            have hqa2 : asc (lst V2 (pi j) j) := lst_asc fun k l h3 h4 => asc_dist hqa k l h3 h4
            have fin : ∀ k3 V3 P3, lst V3 P3 k3 = joinL (lst V1 P1 k) (lst V2 (pi j) j) → asc (lst V3 P3 k3) ∧ ∀ v, mx (lst V3 P3 k3) v = mx (big m (fun i => lst (W i) (Q i) (N i)) (lst V' P' (i + 1))) v := fun k3 V3 P3 h => by
              have hj := joinL_spec j3 hqa2
              rw [h]
              refine ⟨hj.1, fun v => ?_⟩
              rw [hj.2, j4, lst, big_snoc, mx_append, hq, el]
            (refine Later.mk ?_; cbv; try simp only [wp, (show ∀ n : Nat, _ = n from fun n => wf.2.2.2.2.2.2.2.2.2.2.2.2.2.1 (Int.ofNat n)), (show _ = (0 : Nat) from wf.2.2.2.2.2.2.2.2.2.2.2.2.2.1 0), wpa, (show ∀ n : Nat, _ = n from fun n => wfa.2.2.2.2.2.2.2.2.2.2.2.2.2.1 (Int.ofNat n)), (show _ = (0 : Nat) from wfa.2.2.2.2.2.2.2.2.2.2.2.2.2.1 0), wpb, (show ∀ n : Nat, _ = n from fun n => wfb.2.2.2.2.2.2.2.2.2.2.2.2.2.1 (Int.ofNat n)), (show _ = (0 : Nat) from wfb.2.2.2.2.2.2.2.2.2.2.2.2.2.1 0), wpc, (show ∀ n : Nat, _ = n from fun n => wfc.2.2.2.2.2.2.2.2.2.2.2.2.2.1 (Int.ofNat n)), (show _ = (0 : Nat) from wfc.2.2.2.2.2.2.2.2.2.2.2.2.2.1 0), getL, takeL, dropL, TK.isAgg, reduceIte])
            repeat' first | trivial | with_reducible refine And.intro ?_ ?_ | intro c9
            all_goals (refine CallW.frz @fun ⟨_, _, _, _, _, _, _, _, _, _, _, _, _, _, _, _, _, _, _, _, _, _, _, _, _, _, _, _, _, _, _, _, _, _, _, _, _, _, wpz, wfz⟩ => ?_; cbv; try simp only [wpz, wp, (show ∀ n : Nat, _ = n from fun n => wfz.2.2.2.2.2.2.2.2.2.2.2.2.2.1 (Int.ofNat n)), getL, takeL, dropL, TK.isAgg, reduceIte])
            all_goals repeat' first | trivial | with_reducible refine And.intro ?_ ?_ | intro c9
            all_goals
              refine (joinedF _ _ _ _ _ _ (by omega) (by omega)).call ?_
              rintro _ ⟨k3, V3, P3, h3, h4, rfl⟩
              (cbv; try simp only [wp, (show ∀ n : Nat, _ = n from fun n => wf.2.2.2.2.2.2.2.2.2.2.2.2.2.1 (Int.ofNat n)), (show _ = (0 : Nat) from wf.2.2.2.2.2.2.2.2.2.2.2.2.2.1 0), wpa, (show ∀ n : Nat, _ = n from fun n => wfa.2.2.2.2.2.2.2.2.2.2.2.2.2.1 (Int.ofNat n)), (show _ = (0 : Nat) from wfa.2.2.2.2.2.2.2.2.2.2.2.2.2.1 0), wpb, (show ∀ n : Nat, _ = n from fun n => wfb.2.2.2.2.2.2.2.2.2.2.2.2.2.1 (Int.ofNat n)), (show _ = (0 : Nat) from wfb.2.2.2.2.2.2.2.2.2.2.2.2.2.1 0), wpc, (show ∀ n : Nat, _ = n from fun n => wfc.2.2.2.2.2.2.2.2.2.2.2.2.2.1 (Int.ofNat n)), (show _ = (0 : Nat) from wfc.2.2.2.2.2.2.2.2.2.2.2.2.2.1 0), getL, takeL, dropL, TK.isAgg, reduceIte])
              repeat' first | trivial | with_reducible refine And.intro ?_ ?_ | intro c9
            all_goals
              first
              | exact (by (try simp only [wf, wfa, wfb, wfc, nc, nc', Int.toNat_natCast, bsz, ByteArray.size_append, List.length_cons, List.length_nil] at *); (try simp (disch := omega) only [w64, w32, wu8] at *); first | done | omega)
              | refine hBk ⟨i + 1, k3, c3, V3, P3⟩ _ (by dsimp only; omega) ⟨by dsimp only; omega, by dsimp only; omega, (fin _ _ _ h3).1, (fin _ _ _ h3).2, hsc⟩ ?_
            all_goals
              (cbv; try simp only [wf, wfa, wfb, wfc, exD, exL, exT, exB, exA, leLs, leL_d, leL_undef, leL_nils, leA_nils, deq_refl, deq_int, deq_bool, deq_str, and_true, true_and, AObj.iter.injEq, nc, nc']; try simp (disch := omega) only [w64, w32, wu8])
              ((try simp only [wf, wfa, wfb, wfc, nc, nc', Int.toNat_natCast, bsz, ByteArray.size_append, List.length_cons, List.length_nil] at *); (try simp (disch := omega) only [w64, w32, wu8] at *))
              exact ⟨by rw [hc3]; split <;> omega, by omega⟩
        · have hV : ¬ V' i < m := (by (try simp only [wf, wfa, wfb, nc, nc', Int.toNat_natCast, bsz, ByteArray.size_append, List.length_cons, List.length_nil] at *); (try simp (disch := omega) only [w64, w32, wu8] at *); first | done | omega)
          (refine Later.mk ?_; cbv; try simp only [wp, (show ∀ n : Nat, _ = n from fun n => wf.2.2.2.2.2.2.2.2.2.2.2.2.2.1 (Int.ofNat n)), (show _ = (0 : Nat) from wf.2.2.2.2.2.2.2.2.2.2.2.2.2.1 0), wpa, (show ∀ n : Nat, _ = n from fun n => wfa.2.2.2.2.2.2.2.2.2.2.2.2.2.1 (Int.ofNat n)), (show _ = (0 : Nat) from wfa.2.2.2.2.2.2.2.2.2.2.2.2.2.1 0), wpb, (show ∀ n : Nat, _ = n from fun n => wfb.2.2.2.2.2.2.2.2.2.2.2.2.2.1 (Int.ofNat n)), (show _ = (0 : Nat) from wfb.2.2.2.2.2.2.2.2.2.2.2.2.2.1 0), getL, takeL, dropL, TK.isAgg, reduceIte])
          repeat' first | with_reducible refine And.intro ?_ ?_ | intro c9
          all_goals first | exact (by (try simp only [wf, wfa, wfb, nc, nc', Int.toNat_natCast, bsz, ByteArray.size_append, List.length_cons, List.length_nil] at *); (try simp (disch := omega) only [w64, w32, wu8] at *); first | done | omega) | trivial | skip
          (refine CallW.frz @fun ⟨_, _, _, _, _, _, _, _, _, _, _, _, _, _, _, _, _, _, _, _, _, _, _, _, _, _, _, _, _, _, _, _, _, _, _, _, _, _, wpz, wfz⟩ => ?_; cbv; try simp only [wpz, wp, (show ∀ n : Nat, _ = n from fun n => wfz.2.2.2.2.2.2.2.2.2.2.2.2.2.1 (Int.ofNat n)), getL, takeL, dropL, TK.isAgg, reduceIte])
          repeat' first | trivial | with_reducible refine And.intro ?_ ?_ | intro c9
          refine CallW.args (args' := [.d (.sl 1 2 (lvF (fun _ => V' i) fun _ => 0))]) (fun {_ _} => ⟨?_, trivial⟩) (CallW.within (SortedO 1 (fun _ => V' i) (fun _ => 0) (by decide)) [] rfl trivial rfl ?_)
          · ((try simp only [wf, wfa, wfb, nc, nc', Int.toNat_natCast, bsz, ByteArray.size_append, List.length_cons, List.length_nil] at *); (try simp (disch := omega) only [w64, w32, wu8] at *))
            exact .sl _ _ _ _ fun x j hx hj => .of_eq (row1 _ _ x j hx hj)
          rintro _ _ ⟨V2, P2, g1, g2, rfl, rfl⟩
          refine ⟨[_], [], rfl, Nat.zero_le _, ⟨Nat.zero_le _, trivial⟩, rfl, ?_⟩
          (cbv; try simp only [wp, (show ∀ n : Nat, _ = n from fun n => wf.2.2.2.2.2.2.2.2.2.2.2.2.2.1 (Int.ofNat n)), (show _ = (0 : Nat) from wf.2.2.2.2.2.2.2.2.2.2.2.2.2.1 0), wpa, (show ∀ n : Nat, _ = n from fun n => wfa.2.2.2.2.2.2.2.2.2.2.2.2.2.1 (Int.ofNat n)), (show _ = (0 : Nat) from wfa.2.2.2.2.2.2.2.2.2.2.2.2.2.1 0), wpb, (show ∀ n : Nat, _ = n from fun n => wfb.2.2.2.2.2.2.2.2.2.2.2.2.2.1 (Int.ofNat n)), (show _ = (0 : Nat) from wfb.2.2.2.2.2.2.2.2.2.2.2.2.2.1 0), getL, takeL, dropL, TK.isAgg, reduceIte])
          repeat' first | with_reducible refine And.intro ?_ ?_ | intro c9
          all_goals first | exact (by (try simp only [wf, wfa, wfb, nc, nc', Int.toNat_natCast, bsz, ByteArray.size_append, List.length_cons, List.length_nil] at *); (try simp (disch := omega) only [w64, w32, wu8] at *); first | done | omega) | trivial | skip
          have g1' := g1
          have hb2 : ∀ j, j < 1 → 0 ≤ P2 j ∧ P2 j ≤ 1000 := fun j hj => by
            obtain ⟨l, hl, e⟩ := lst_mem.1 (g1.mem_iff.1 (lst_mem.2 ⟨j, hj, rfl⟩))
            rw [(Prod.mk.inj e).2]
            exact ⟨Int.le_refl _, by decide⟩
          have hqa : asc (lst V2 P2 1) := sorted_asc g1 (fun k l h3 h4 => by omega) g2
          obtain ⟨c3, hc3⟩ : ∃ c3, c3 = max c1 (P' i) := ⟨_, rfl⟩
          have hsc : ScOk m C c (lst V' P' (i + 1)) c3 := by
            have := j5.stay (x := (V' i, P' i)) hV
            dsimp only at this
            rw [← hc3] at this
            exact this
          have hq : ∀ v, mx (big1 m (fun i => lst (W i) (Q i) (N i)) (V' i, P' i)) v = mx ((lst V2 P2 1).map fun x => (x.1, x.2 + P' i)) v := fun v => by
            unfold big1
            rw [if_neg hV, mx_perm (g1.map _) v]
            simp [lst]
          obtain ⟨N0, hN0⟩ : ∃ N0 : Nat, N0 = 1 := ⟨_, rfl⟩
          have hN8 : N0 ≤ 8 := by omega
          rw [← hN0] at hb2 hqa hq
          refine loopO (Tf := fun {_} _ => fzT [2] (T ())) (fun {_} => tabOk.frz [2]) [(20, upF 0 11)] 400 (fun j : Nat => ⟨[.undef, .d (.sl m 2 (lsF C N W Q)), .undef, .undef, .ptr 0 0, .d (.int .i64 0), .undef, .undef, .d (.int .i64 c1), .d (.sl k 2 (lvF V1 P1)), .undef, .ptr 1 0, .ptr 3 0, .ref 4 0 (N0) 2, .undef, .undef, .undef, .undef, .undef, .undef, .undef, .undef, .undef, .undef, .undef, .undef, .undef, .undef, .undef, .undef, .undef, .undef, .undef, .undef, .undef, .undef, .undef, .undef, .undef, .undef, .undef, .undef, .undef, .undef, .undef, .undef, .d (.sl n 2 (lvF V' P')), .d (.int .i64 n), .d (.int .i64 i), .undef, .undef, .undef, .undef, .undef, .undef, .undef, .undef, .undef, .undef, .undef, .undef, .undef, .undef, .undef, .undef, .undef, .undef, .undef, .undef, .undef, .undef, .d (.int .i64 (N0 : Nat)), .d (.int .i64 j), .undef, .undef, .undef, .undef, .undef, .undef, .undef, .undef, .undef, .undef, .undef, .undef, .undef, .undef, .undef, .undef, .undef, .undef, .undef, .undef, .undef, .undef, .undef, .undef, .undef, .undef, .undef, .undef, .undef], [.box [.d (.int .i64 0), .d (.sl 0 2 (lvF V P0))], .box [.d (.int .i64 (V' i)), .d (.int .i64 (P' i))], .arr 1 2 (lvF (fun _ => V' i) fun _ => 0) 1, .box [.d (.int .i64 0), .ref 2 0 1 2], .arr (N0) 2 (lvF V2 (addU P2 (P' i) j)) 0]⟩) (fun j => N0 - j) (fun j => j ≤ N0) 0 (Nat.zero_le _) (fun {_} => by kernel_rfl) ?_ (fun i => by kernel_rfl) @fun ⟨_, _, _, _, _, _, _, _, _, _, _, _, _, _, _, _, _, _, _, _, _, _, _, _, _, _, _, _, _, _, _, _, _, _, _, _, _, _, wpc, wfc⟩ j Bk2 hj hBk2 => ?_
          · subst hN0
            (cbv; try simp only [wf, wfa, wfb, exD, exL, exT, exB, exA, leLs, leL_d, leL_undef, leL_nils, leA_nils, deq_refl, deq_int, deq_bool, deq_str, and_true, true_and, AObj.iter.injEq, nc, nc']; try simp (disch := omega) only [w64, w32, wu8])
            ((try simp only [wf, wfa, wfb, nc, nc', Int.toNat_natCast, bsz, ByteArray.size_append, List.length_cons, List.length_nil] at *); (try simp (disch := omega) only [w64, w32, wu8] at *))
            
            exact ⟨rfl, ⟨Nat.le_refl _, Nat.le_refl _, fun x j hx hj => .of_eq (row1 _ _ x j hx hj)⟩, lref _ _ _ _, Nat.le_refl _, Nat.zero_le _, fun x j hx hj => .of_eq (by match j, hj with | 0, _ => rfl | 1, _ => simp [lvF, addU])⟩
          have hA := addU_at P2 (P' i) j
          obtain ⟨pi, hpi⟩ : ∃ pi, pi = addU P2 (P' i) := ⟨_, rfl⟩
          rw [← hpi] at hA
          rw [← hpi] at hBk2 ⊢
          (cbv; try simp only [wp, (show ∀ n : Nat, _ = n from fun n => wf.2.2.2.2.2.2.2.2.2.2.2.2.2.1 (Int.ofNat n)), (show _ = (0 : Nat) from wf.2.2.2.2.2.2.2.2.2.2.2.2.2.1 0), wpa, (show ∀ n : Nat, _ = n from fun n => wfa.2.2.2.2.2.2.2.2.2.2.2.2.2.1 (Int.ofNat n)), (show _ = (0 : Nat) from wfa.2.2.2.2.2.2.2.2.2.2.2.2.2.1 0), wpb, (show ∀ n : Nat, _ = n from fun n => wfb.2.2.2.2.2.2.2.2.2.2.2.2.2.1 (Int.ofNat n)), (show _ = (0 : Nat) from wfb.2.2.2.2.2.2.2.2.2.2.2.2.2.1 0), wpc, (show ∀ n : Nat, _ = n from fun n => wfc.2.2.2.2.2.2.2.2.2.2.2.2.2.1 (Int.ofNat n)), (show _ = (0 : Nat) from wfc.2.2.2.2.2.2.2.2.2.2.2.2.2.1 0), getL, takeL, dropL, TK.isAgg, reduceIte])
          refine ⟨fun e2 => ?_, fun e2 => ?_⟩
          · have e2 : j < N0 := (by (try simp only [wf, wfa, wfb, wfc, nc, nc', Int.toNat_natCast, bsz, ByteArray.size_append, List.length_cons, List.length_nil] at *); (try simp (disch := omega) only [w64, w32, wu8] at *); first | done | omega)
            have := hb2 j e2
            (refine Later.mk ?_; cbv; try simp only [wp, (show ∀ n : Nat, _ = n from fun n => wf.2.2.2.2.2.2.2.2.2.2.2.2.2.1 (Int.ofNat n)), (show _ = (0 : Nat) from wf.2.2.2.2.2.2.2.2.2.2.2.2.2.1 0), wpa, (show ∀ n : Nat, _ = n from fun n => wfa.2.2.2.2.2.2.2.2.2.2.2.2.2.1 (Int.ofNat n)), (show _ = (0 : Nat) from wfa.2.2.2.2.2.2.2.2.2.2.2.2.2.1 0), wpb, (show ∀ n : Nat, _ = n from fun n => wfb.2.2.2.2.2.2.2.2.2.2.2.2.2.1 (Int.ofNat n)), (show _ = (0 : Nat) from wfb.2.2.2.2.2.2.2.2.2.2.2.2.2.1 0), wpc, (show ∀ n : Nat, _ = n from fun n => wfc.2.2.2.2.2.2.2.2.2.2.2.2.2.1 (Int.ofNat n)), (show _ = (0 : Nat) from wfc.2.2.2.2.2.2.2.2.2.2.2.2.2.1 0), getL, takeL, dropL, TK.isAgg, reduceIte])
            repeat' first | with_reducible refine And.intro ?_ ?_ | intro c9
            all_goals first | exact (by (try simp only [wf, wfa, wfb, wfc, nc, nc', Int.toNat_natCast, bsz, ByteArray.size_append, List.length_cons, List.length_nil] at *); (try simp (disch := omega) only [w64, w32, wu8] at *); first | done | omega) | trivial | skip
            refine hBk2 (j + 1) _ (by omega) (by omega) ?_
            (cbv; try simp only [wf, wfa, wfb, wfc, exD, exL, exT, exB, exA, leLs, leL_d, leL_undef, leL_nils, leA_nils, deq_refl, deq_int, deq_bool, deq_str, and_true, true_and, AObj.iter.injEq, nc, nc']; try simp (disch := omega) only [w64, w32, wu8])
            ((try simp only [wf, wfa, wfb, wfc, nc, nc', Int.toNat_natCast, bsz, ByteArray.size_append, List.length_cons, List.length_nil] at *); (try simp (disch := omega) only [w64, w32, wu8] at *))
            rw [hA]
            refine ⟨by omega, ⟨Nat.le_refl _, Nat.le_refl _, fun _ _ _ _ => trivial⟩, lref _ _ _ _, Nat.le_refl _, Nat.zero_le _, fun x j2 hx hj => .of_eq ?_⟩
            rw [hpi]
            exact addU_step V2 P2 (P' i) j x j2 hj
          · obtain rfl : j = N0 := (by (try simp only [wf, wfa, wfb, wfc, nc, nc', Int.toNat_natCast, bsz, ByteArray.size_append, List.length_cons, List.length_nil] at *); (try simp (disch := omega) only [w64, w32, wu8] at *); first | done | omega)
            have el : lst V2 (pi j) j = (lst V2 P2 j).map fun x => (x.1, x.2 + P' i) := by
              rw [← lst_add_map]
              exact lst_congr fun k hk => ⟨rfl, by rw [hpi]; exact if_pos hk⟩
            have hqa2 : asc (lst V2 (pi j) j) := lst_asc fun k l h3 h4 => asc_dist hqa k l h3 h4
            have fin : ∀ k3 V3 P3, lst V3 P3 k3 = joinL (lst V1 P1 k) (lst V2 (pi j) j) → asc (lst V3 P3 k3) ∧ ∀ v, mx (lst V3 P3 k3) v = mx (big m (fun i => lst (W i) (Q i) (N i)) (lst V' P' (i + 1))) v := fun k3 V3 P3 h => by
              have hj := joinL_spec j3 hqa2
              rw [h]
              refine ⟨hj.1, fun v => ?_⟩
              rw [hj.2, j4, lst, big_snoc, mx_append, hq, el]
            (refine Later.mk ?_; cbv; try simp only [wp, (show ∀ n : Nat, _ = n from fun n => wf.2.2.2.2.2.2.2.2.2.2.2.2.2.1 (Int.ofNat n)), (show _ = (0 : Nat) from wf.2.2.2.2.2.2.2.2.2.2.2.2.2.1 0), wpa, (show ∀ n : Nat, _ = n from fun n => wfa.2.2.2.2.2.2.2.2.2.2.2.2.2.1 (Int.ofNat n)), (show _ = (0 : Nat) from wfa.2.2.2.2.2.2.2.2.2.2.2.2.2.1 0), wpb, (show ∀ n : Nat, _ = n from fun n => wfb.2.2.2.2.2.2.2.2.2.2.2.2.2.1 (Int.ofNat n)), (show _ = (0 : Nat) from wfb.2.2.2.2.2.2.2.2.2.2.2.2.2.1 0), wpc, (show ∀ n : Nat, _ = n from fun n => wfc.2.2.2.2.2.2.2.2.2.2.2.2.2.1 (Int.ofNat n)), (show _ = (0 : Nat) from wfc.2.2.2.2.2.2.2.2.2.2.2.2.2.1 0), getL, takeL, dropL, TK.isAgg, reduceIte])
            repeat' first | trivial | with_reducible refine And.intro ?_ ?_ | intro c9
            all_goals (refine CallW.frz @fun ⟨_, _, _, _, _, _, _, _, _, _, _, _, _, _, _, _, _, _, _, _, _, _, _, _, _, _, _, _, _, _, _, _, _, _, _, _, _, _, wpz, wfz⟩ => ?_; cbv; try simp only [wpz, wp, (show ∀ n : Nat, _ = n from fun n => wfz.2.2.2.2.2.2.2.2.2.2.2.2.2.1 (Int.ofNat n)), getL, takeL, dropL, TK.isAgg, reduceIte])
            all_goals repeat' first | trivial | with_reducible refine And.intro ?_ ?_ | intro c9
            all_goals
              refine (joinedF _ _ _ _ _ _ (by omega) (by omega)).call ?_
              rintro _ ⟨k3, V3, P3, h3, h4, rfl⟩
              (cbv; try simp only [wp, (show ∀ n : Nat, _ = n from fun n => wf.2.2.2.2.2.2.2.2.2.2.2.2.2.1 (Int.ofNat n)), (show _ = (0 : Nat) from wf.2.2.2.2.2.2.2.2.2.2.2.2.2.1 0), wpa, (show ∀ n : Nat, _ = n from fun n => wfa.2.2.2.2.2.2.2.2.2.2.2.2.2.1 (Int.ofNat n)), (show _ = (0 : Nat) from wfa.2.2.2.2.2.2.2.2.2.2.2.2.2.1 0), wpb, (show ∀ n : Nat, _ = n from fun n => wfb.2.2.2.2.2.2.2.2.2.2.2.2.2.1 (Int.ofNat n)), (show _ = (0 : Nat) from wfb.2.2.2.2.2.2.2.2.2.2.2.2.2.1 0), wpc, (show ∀ n : Nat, _ = n from fun n => wfc.2.2.2.2.2.2.2.2.2.2.2.2.2.1 (Int.ofNat n)), (show _ = (0 : Nat) from wfc.2.2.2.2.2.2.2.2.2.2.2.2.2.1 0), getL, takeL, dropL, TK.isAgg, reduceIte])
              repeat' first | trivial | with_reducible refine And.intro ?_ ?_ | intro c9
            all_goals
              first
              | exact (by (try simp only [wf, wfa, wfb, wfc, nc, nc', Int.toNat_natCast, bsz, ByteArray.size_append, List.length_cons, List.length_nil] at *); (try simp (disch := omega) only [w64, w32, wu8] at *); first | done | omega)
              | refine hBk ⟨i + 1, k3, c3, V3, P3⟩ _ (by dsimp only; omega) ⟨by dsimp only; omega, by dsimp only; omega, (fin _ _ _ h3).1, (fin _ _ _ h3).2, hsc⟩ ?_
            all_goals
              (cbv; try simp only [wf, wfa, wfb, wfc, exD, exL, exT, exB, exA, leLs, leL_d, leL_undef, leL_nils, leA_nils, deq_refl, deq_int, deq_bool, deq_str, and_true, true_and, AObj.iter.injEq, nc, nc']; try simp (disch := omega) only [w64, w32, wu8])
              ((try simp only [wf, wfa, wfb, wfc, nc, nc', Int.toNat_natCast, bsz, ByteArray.size_append, List.length_cons, List.length_nil] at *); (try simp (disch := omega) only [w64, w32, wu8] at *))
              exact ⟨by rw [hc3]; split <;> omega, by omega⟩
      · obtain rfl : n = i := (by (try simp only [wf, wfa, wfb, nc, nc', Int.toNat_natCast, bsz, ByteArray.size_append, List.length_cons, List.length_nil] at *); (try simp (disch := omega) only [w64, w32, wu8] at *); first | done | omega)
        (refine Later.mk ?_; cbv; try simp only [wp, (show ∀ n : Nat, _ = n from fun n => wf.2.2.2.2.2.2.2.2.2.2.2.2.2.1 (Int.ofNat n)), (show _ = (0 : Nat) from wf.2.2.2.2.2.2.2.2.2.2.2.2.2.1 0), wpa, (show ∀ n : Nat, _ = n from fun n => wfa.2.2.2.2.2.2.2.2.2.2.2.2.2.1 (Int.ofNat n)), (show _ = (0 : Nat) from wfa.2.2.2.2.2.2.2.2.2.2.2.2.2.1 0), wpb, (show ∀ n : Nat, _ = n from fun n => wfb.2.2.2.2.2.2.2.2.2.2.2.2.2.1 (Int.ofNat n)), (show _ = (0 : Nat) from wfb.2.2.2.2.2.2.2.2.2.2.2.2.2.1 0), getL, takeL, dropL, TK.isAgg, reduceIte])
        repeat' first | trivial | with_reducible refine And.intro ?_ ?_ | intro c9
        refine (canonical c1 k V1 P1 (by omega)).call ?_
        intro r hr
        have ⟨c2, n2, V4, P4, e2, e3, _⟩ := hr
        subst e3
        rw [j5.canon j4] at hr
        (cbv; try simp only [wp, (show ∀ n : Nat, _ = n from fun n => wf.2.2.2.2.2.2.2.2.2.2.2.2.2.1 (Int.ofNat n)), (show _ = (0 : Nat) from wf.2.2.2.2.2.2.2.2.2.2.2.2.2.1 0), wpa, (show ∀ n : Nat, _ = n from fun n => wfa.2.2.2.2.2.2.2.2.2.2.2.2.2.1 (Int.ofNat n)), (show _ = (0 : Nat) from wfa.2.2.2.2.2.2.2.2.2.2.2.2.2.1 0), wpb, (show ∀ n : Nat, _ = n from fun n => wfb.2.2.2.2.2.2.2.2.2.2.2.2.2.1 (Int.ofNat n)), (show _ = (0 : Nat) from wfb.2.2.2.2.2.2.2.2.2.2.2.2.2.1 0), getL, takeL, dropL, TK.isAgg, reduceIte])
        repeat' first | trivial | with_reducible refine And.intro ?_ ?_ | intro c9
        all_goals exact hR _ _ _ (hr.frz _) (.inr ⟨⟨v, i5⟩, _, j3, fun v => by rw [j4 v]; exact mx_perm (big_perm _ _ h1) v, by rw [← sc_perm m C c h1]; exact hr⟩)
  · exact hR _ _ _ (frz_err 4 _) (.inl ⟨fun h => v h.1, .err 4⟩)
end Go.VM
