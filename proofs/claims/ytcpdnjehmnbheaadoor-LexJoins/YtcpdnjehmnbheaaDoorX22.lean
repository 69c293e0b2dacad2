/- Part of the proof: X22. -/
import Derived.Test.YtcpdnjehmnbheaaDoorXG3
import Derived.Test.YtcpdnjehmnbheaaDoorVG2
namespace Go.VM
open Go.Proofs Go
set_option maxRecDepth 100000
set_option linter.unusedVariables false
set_option linter.unusedSimpArgs false

theorem ext_le (s : ByteArray) (a b : Nat) : (s.extract a b).size ≤ s.size := by simp [ByteArray.size_extract]; omega
set_option maxHeartbeats 2000000
theorem f4 (s : ByteArray) : VFun (P ()) 4 [.d (.str s)] (fun r => r = .d (.bool true)) := by
  refine vfunK (Tf := @T) @tabOk 400 Tryd.func4 rfl rfl (Nat.le_of_ble_eq_true rfl) @fun ⟨_, _, _, _, _, _, _, _, _, _, _, _, _, _, _, _, _, _, _, _, _, _, _, _, _, _, _, _, _, _, _, _, _, _, _, _, _, _, wp, wf⟩ R hR => ?_
  cbv
  try simp only [wp, getL, takeL, dropL, TK.isAgg, reduceIte]
  refine ⟨fun h => ?_, fun h => ?_⟩
  · (refine Later.mk ?_; cbv; try simp only [wp, getL, takeL, dropL, TK.isAgg, reduceIte])
    exact hR _ _ _ (.d _) rfl
  · (refine Later.mk ?_; cbv; try simp only [wp, getL, takeL, dropL, TK.isAgg, reduceIte])
    have hs : s.size < 2 ^ 40 := (by (try simp only [wf, nc, nc'] at *); (try simp (disch := omega) only [w64, w32, wu8] at *); omega)
    refine (f10 _ hs).call ?_
    rintro _ ⟨n, c, a, K, S, O, h1, h2, h3, h4, h5, h6, rfl⟩
    (cbv; try simp only [wp, getL, takeL, dropL, TK.isAgg, reduceIte])
    refine ⟨fun hc => ?_, fun hc => ?_⟩
    · have hn : n = 0 := by rw [h1]; exact split_fault s (by rw [← h2]; exact hc)
      subst hn
      (refine Later.mk ?_; cbv; try simp only [wp, getL, takeL, dropL, TK.isAgg, reduceIte])
      refine ⟨fun h7 => ?_, fun h7 => absurd (show _ from (by (try simp only [wf, nc, nc'] at *); (try simp (disch := omega) only [w64, w32, wu8] at *); omega)) h7⟩
      refine f13.call ?_
      rintro _ rfl
      (cbv; try simp only [wp, getL, takeL, dropL, TK.isAgg, reduceIte])
      exact hR _ _ _ (.d _) rfl
    · have hc : c = 0 := (by (try simp only [wf, nc, nc'] at *); (try simp (disch := omega) only [w64, w32, wu8] at *); omega)
      subst hc
      obtain ⟨ht, hz, hl6⟩ := split_toks s h2.symm
      have gap := ht.gap (by omega)
      rw [← h1, ← h5, ← h6] at gap
      rw [← h1] at hl6
      (refine Later.mk ?_; cbv; try simp only [wp, getL, takeL, dropL, TK.isAgg, reduceIte])
      refine loopK (Tf := @T) @tabOk 400 (fun y : Nat × Nat => ⟨mk 105 [(0, .d (.str s)), (3, .d (.sl n 3 (tokF K S O))), (5, .d (.int .i64 y.2)), (6, .d (.int .i64 y.1))], []⟩) (fun y => n + 1 - y.1) (fun y => y.1 ≤ n + 1 ∧ (y.1 = 0 → y.2 = 0) ∧ (0 < y.1 → y.1 ≤ n → (y.2 : Int) = O (y.1 - 1) + (S (y.1 - 1)).size)) (0, 0) ⟨by simp, fun _ => rfl, fun h => absurd h (by simp)⟩ ?_ (fun y => rfl) @fun ⟨_, _, _, _, _, _, _, _, _, _, _, _, _, _, _, _, _, _, _, _, _, _, _, _, _, _, _, _, _, _, _, _, _, _, _, _, _, _, wpa, wfa⟩ ⟨i, from'⟩ Bk hy hBk => ?_
      · (cbv; try simp only [wf, exD, exL, exT, exB, exA, leLs, leL_d, leL_undef, deq_refl, deq_int, deq_bool, deq_str, and_true, true_and, AObj.iter.injEq, nc, nc']; try simp (disch := omega) only [w64, w32, wu8])
        exact ⟨rfl, rfl⟩
      (cbv; try simp only [wp, wpa, getL, takeL, dropL, TK.isAgg, reduceIte])
      obtain ⟨y1, y2, y3⟩ := hy
      dsimp only at y1 y2 y3
      refine ⟨fun h7 => ?_, fun h7 => ?_⟩
      · have hi : i ≤ n := (by (try simp only [wf, wfa, nc, nc', Int.toNat_natCast] at *); (try simp (disch := omega) only [w64, w32, wu8] at *); omega)
        obtain ⟨a', b', C', g1, g2, g3, g4, g5, g6, g7⟩ := gap i hi
        (try simp only [nc, nc'] at *)
        have hfrom : from' = a' := by
          by_cases hi0 : i = 0
          · rw [y2 hi0, g4 hi0]
          · have := y3 (by omega) hi
            have := g5 (by omega)
            omega
        subst hfrom
        have gle := g1.le
        (refine Later.mk ?_; cbv; try simp only [wp, wpa, getL, takeL, dropL, TK.isAgg, reduceIte])
        -- the call at the gap, and what follows it
        obtain ⟨C2, hg⟩ := gap_split g1 g2 hz
        refine ⟨fun h8 => ?_, fun h8 => ?_⟩
        · have hi2 : i < n := (by (try simp only [wf, wfa, nc, nc', Int.toNat_natCast] at *); (try simp (disch := omega) only [w64, w32, wu8] at *); omega)
          obtain ⟨q1, q2, q3, q4⟩ := g7 hi2
          (try simp only [nc, nc'] at *)
          have q5 : s.extract (O i).toNat (O i + (S i).size).toNat = S i := by
            rw [← q1, Int.toNat_natCast, show ((b' : Int) + (S i).size).toNat = b' + (S i).size by omega]
            exact q4
          (refine Later.mk ?_; cbv; try simp only [wp, wpa, getL, takeL, dropL, TK.isAgg, reduceIte])
          repeat' first | with_reducible refine And.intro ?_ ?_ | intro c9
          all_goals first
            | (exfalso; exact (by (try simp only [wf, wfa, nc, nc', Int.toNat_natCast] at *); (try simp (disch := omega) only [w64, w32, wu8] at *); omega))
            | exact (by (try simp only [wf, wfa, nc, nc', Int.toNat_natCast] at *); (try simp (disch := omega) only [w64, w32, wu8] at *); omega)
            | trivial
            | (exfalso; apply c9; ((try simp only [wf, wfa, nc, nc', Int.toNat_natCast] at *); (try simp (disch := omega) only [w64, w32, wu8] at *)); exact q5)
            | skip
          (refine Later.mk ?_; cbv; try simp only [wp, wpa, getL, takeL, dropL, TK.isAgg, reduceIte])
          refine ⟨(by (try simp only [wf, wfa, nc, nc', Int.toNat_natCast] at *); (try simp (disch := omega) only [w64, w32, wu8] at *); omega), (by (try simp only [wf, wfa, nc, nc', Int.toNat_natCast] at *); (try simp (disch := omega) only [w64, w32, wu8] at *); omega), (by (try simp only [wf, wfa, nc, nc', Int.toNat_natCast] at *); (try simp (disch := omega) only [w64, w32, wu8] at *); omega), ?_⟩
          refine (f10 _ (Nat.lt_of_le_of_lt (by ((try simp only [wf, wfa, nc, nc', Int.toNat_natCast] at *); (try simp (disch := omega) only [w64, w32, wu8] at *)); exact ext_le _ _ _) hs)).call ?_
          rintro _ ⟨n', c', a', K', S', O', k1, k2, -, -, -, -, rfl⟩
          have k1 : n' = 0 := by ((try simp only [wf, wfa, nc, nc', Int.toNat_natCast] at *); (try simp (disch := omega) only [w64, w32, wu8] at *)); rw [k1, ← q1, Int.toNat_natCast, hg]; rfl
          have k2 : c' = 0 := by ((try simp only [wf, wfa, nc, nc', Int.toNat_natCast] at *); (try simp (disch := omega) only [w64, w32, wu8] at *)); rw [k2, ← q1, Int.toNat_natCast, hg]
          subst k1 k2
          (cbv; try simp only [wp, wpa, getL, takeL, dropL, TK.isAgg, reduceIte])
          repeat' first | with_reducible refine And.intro ?_ ?_ | intro c9
          all_goals first
            | (exfalso; exact (by (try simp only [wf, wfa, nc, nc', Int.toNat_natCast] at *); (try simp (disch := omega) only [w64, w32, wu8] at *); omega))
            | exact (by (try simp only [wf, wfa, nc, nc', Int.toNat_natCast] at *); (try simp (disch := omega) only [w64, w32, wu8] at *); omega)
            | trivial
            | skip
          obtain ⟨i2, hi3⟩ : ∃ i2, i2 = i + 1 := ⟨_, rfl⟩
          obtain ⟨fr2, hfr⟩ : ∃ fr2, fr2 = b' + (S i).size := ⟨_, rfl⟩
          (try simp only [nc, nc'] at *)
          have bk := fun s' => hBk (i2, fr2) s' (by dsimp only; omega) ⟨by dsimp only; omega, fun h => by dsimp only at h; omega, fun _ _ => by dsimp only; rw [hi3, Nat.add_sub_cancel]; omega⟩
          (refine Later.mk ?_; cbv; try simp only [wp, wpa, getL, takeL, dropL, TK.isAgg, reduceIte])
          refine bk _ ?_
          (cbv; try simp only [wf, wfa, exD, exL, exT, exB, exA, leLs, leL_d, leL_undef, deq_refl, deq_int, deq_bool, deq_str, and_true, true_and, AObj.iter.injEq, nc, nc']; try simp (disch := omega) only [w64, w32, wu8])
          (try simp only [nc, nc'] at *)
          refine ⟨?_, ?_⟩ <;> first | omega | (simp only [Int.toNat_natCast]; rw [w64 (by omega) (by omega)]; omega)
        · have hi2 : i = n := (by (try simp only [wf, wfa, nc, nc', Int.toNat_natCast] at *); (try simp (disch := omega) only [w64, w32, wu8] at *); omega)
          have hb := g6 hi2
          (try simp only [nc, nc'] at *)
          (refine Later.mk ?_; cbv; try simp only [wp, wpa, getL, takeL, dropL, TK.isAgg, reduceIte])
          repeat' first | with_reducible refine And.intro ?_ ?_ | intro c9
          all_goals first
            | (exfalso; exact (by (try simp only [wf, wfa, nc, nc', Int.toNat_natCast] at *); (try simp (disch := omega) only [w64, w32, wu8] at *); omega))
            | exact (by (try simp only [wf, wfa, nc, nc', Int.toNat_natCast] at *); (try simp (disch := omega) only [w64, w32, wu8] at *); omega)
            | trivial
            | skip
          (refine Later.mk ?_; cbv; try simp only [wp, wpa, getL, takeL, dropL, TK.isAgg, reduceIte])
          refine ⟨(by (try simp only [wf, wfa, nc, nc', Int.toNat_natCast] at *); (try simp (disch := omega) only [w64, w32, wu8] at *); omega), (by (try simp only [wf, wfa, nc, nc', Int.toNat_natCast] at *); (try simp (disch := omega) only [w64, w32, wu8] at *); omega), (by (try simp only [wf, wfa, nc, nc', Int.toNat_natCast] at *); (try simp (disch := omega) only [w64, w32, wu8] at *); omega), ?_⟩
          refine (f10 _ (Nat.lt_of_le_of_lt (by ((try simp only [wf, wfa, nc, nc', Int.toNat_natCast] at *); (try simp (disch := omega) only [w64, w32, wu8] at *)); exact ext_le _ _ _) hs)).call ?_
          rintro _ ⟨n', c', a', K', S', O', k1, k2, -, -, -, -, rfl⟩
          have k1 : n' = 0 := by ((try simp only [wf, wfa, nc, nc', Int.toNat_natCast] at *); (try simp (disch := omega) only [w64, w32, wu8] at *)); rw [k1, show s.extract from' s.size = s.extract from' b' by rw [hb], hg]; rfl
          have k2 : c' = 0 := by ((try simp only [wf, wfa, nc, nc', Int.toNat_natCast] at *); (try simp (disch := omega) only [w64, w32, wu8] at *)); rw [k2, show s.extract from' s.size = s.extract from' b' by rw [hb], hg]
          subst k1 k2
          (cbv; try simp only [wp, wpa, getL, takeL, dropL, TK.isAgg, reduceIte])
          repeat' first | with_reducible refine And.intro ?_ ?_ | intro c9
          all_goals first
            | (exfalso; exact (by (try simp only [wf, wfa, nc, nc', Int.toNat_natCast] at *); (try simp (disch := omega) only [w64, w32, wu8] at *); omega))
            | exact (by (try simp only [wf, wfa, nc, nc', Int.toNat_natCast] at *); (try simp (disch := omega) only [w64, w32, wu8] at *); omega)
            | trivial
            | skip
          obtain ⟨i2, hi3⟩ : ∃ i2, i2 = i + 1 := ⟨_, rfl⟩
          obtain ⟨fr2, hfr⟩ : ∃ fr2, fr2 = s.size := ⟨_, rfl⟩
          (try simp only [nc, nc'] at *)
          have bk := fun s' => hBk (i2, fr2) s' (by dsimp only; omega) ⟨by dsimp only; omega, fun h => by dsimp only at h; omega, fun _ h => by dsimp only at h; omega⟩
          (refine Later.mk ?_; cbv; try simp only [wp, wpa, getL, takeL, dropL, TK.isAgg, reduceIte])
          refine bk _ ?_
          (cbv; try simp only [wf, wfa, exD, exL, exT, exB, exA, leLs, leL_d, leL_undef, deq_refl, deq_int, deq_bool, deq_str, and_true, true_and, AObj.iter.injEq, nc, nc']; try simp (disch := omega) only [w64, w32, wu8])
          (try simp only [nc, nc'] at *)
          refine ⟨?_, ?_⟩ <;> first | omega | (simp only [Int.toNat_natCast]; rw [w64 (by omega) (by omega)]; omega)
      · (refine Later.mk ?_; cbv; try simp only [wp, wpa, getL, takeL, dropL, TK.isAgg, reduceIte])
        refine f13.call ?_
        rintro _ rfl
        (cbv; try simp only [wp, wpa, getL, takeL, dropL, TK.isAgg, reduceIte])
        exact hR _ _ _ (.d _) rfl
end Go.VM
