/- Part of the proof: X33. -/
import Derived.Test.YtcpdnjehmnbheaaDoorX34
namespace Go.VM
open Go.Proofs Go
set_option maxRecDepth 100000
set_option linter.unusedVariables false
set_option linter.unusedSimpArgs false

structure Sr where
  k : Nat
  q : Nat
  u : ByteArray
set_option maxHeartbeats 2000000 in
theorem f21 (s : ByteArray) (hs : s.size < 2 ^ 40) : VFun (P ()) 21 [.d (.str s)] (StripOut s) := by
  refine vfunO (Tf := @T) @tabOk [(3, upF 0 3), (16, upF 0 4)] 400 Tryd.func21 rfl (fun {_} => by kernel_rfl) rfl (Nat.le_of_ble_eq_true rfl) @fun ⟨_, _, _, _, _, _, _, _, _, _, _, _, _, _, _, _, _, _, _, _, _, _, _, _, _, _, _, _, _, _, _, _, _, _, _, _, _, _, wp, wf⟩ R hR => ?_
  cbv
  try simp only [wp, getL, takeL, dropL, TK.isAgg, reduceIte]
  replace hR := fun t c a H h1 h2 h3 h4 => hR _ H _ (.tup2 (.d (.str t)) (.aggD [.int .i64 c, .int .i64 a])) ⟨t, c, a, h1, h2, h3, h4, rfl⟩
  simp only [List.map] at hR
  refine (f11 s hs).call ?_
  rintro _ ⟨n, c, a, K, S, O, k1, k2, k3, k4, k5, k6, rfl⟩
  (cbv; try simp only [wp, getL, takeL, dropL, TK.isAgg, reduceIte])
  refine ⟨fun hc => ?_, fun hc => ?_⟩
  · (refine Later.mk ?_; cbv; try simp only [wp, getL, takeL, dropL, TK.isAgg, reduceIte])
    have := fun H => hR ⟨#[]⟩ c a H k2 k3 (fun h => absurd h hc) (fun _ => rfl)
    repeat' first | exact this _ | (with_reducible refine And.intro ?_ ?_) | trivial
  · have hc : c = 0 := (by (try simp only [wf, nc, nc'] at *); (try simp (disch := omega) only [w64, w32, wu8] at *); omega)
    subst hc
    (refine Later.mk ?_; cbv; try simp only [wp, getL, takeL, dropL, TK.isAgg, reduceIte])
    obtain ⟨ht, hz, hl6⟩ := split_toks s k2.symm
    rw [← k1] at hl6
    refine loopO (Tf := @T) @tabOk [(3, upF 0 3), (16, upF 0 4)] 400 (fun y : Sr => ⟨mk 81 [(0, .d (.str s)), (3, .ptr 0 0), (4, .d (.sl n 3 (tokF K S O))), (5, .ptr 1 0), (6, .d (.str y.u)), (7, .d (.int .i64 y.q)), (8, .d (.int .i64 y.k))], [.box [.d (.int .i64 0), .d (.int .i64 0)], .box [.d (.int .i64 0), .d (.int .i64 a)]]⟩) (fun y => s.size - y.k)
      (fun y => y.k ≤ s.size ∧ y.u.size ≤ y.k ∧ ∃ T1 C1, Toks s y.k s.size T1 C1 ∧ n = y.q + T1.length ∧ (∀ i, i < T1.length → K (y.q + i) = kindsL T1 i ∧ S (y.q + i) = textsL T1 i ∧ O (y.q + i) = possL T1 i) ∧ y.u ++ stripL s y.k C1 = stripS s) ⟨0, 0, ⟨#[]⟩⟩
      ⟨Nat.zero_le _, Nat.le_refl _, _, _, ht, by rw [Nat.zero_add]; exact k1, fun i hi => by rw [Nat.zero_add, k4, k5, k6]; exact ⟨rfl, rfl, rfl⟩, by rw [stripS]; exact ByteArray.empty_append⟩ (fun {_} => by kernel_rfl) ?_ (fun y => rfl) @fun ⟨_, _, _, _, _, _, _, _, _, _, _, _, _, _, _, _, _, _, _, _, _, _, _, _, _, _, _, _, _, _, _, _, _, _, _, _, _, _, wpa, wfa⟩ ⟨k, q, u⟩ Bk hy hBk => ?_
    · (cbv; try simp only [wf, exD, exL, exT, exB, exA, leLs, leL_d, leL_undef, deq_refl, deq_int, deq_bool, deq_str, and_true, true_and, AObj.iter.injEq, nc, nc']; try simp (disch := omega) only [w64, w32, wu8])
      exact ⟨rfl, rfl⟩
    (cbv; try simp only [wp, wpa, getL, takeL, dropL, TK.isAgg, reduceIte])
    obtain ⟨y1, y0, T1, C1, y2, y3, y4, y5⟩ := hy
    dsimp only at y1 y0 y2 y3 y4 y5
    refine ⟨fun e0 => ?_, fun e0 => ?_⟩
    · have e0 : k < s.size := (by (try simp only [wf, wfa, nc, nc', Int.toNat_natCast] at *); (try simp (disch := omega) only [w64, w32, wu8] at *); omega)
      (refine Later.mk ?_; cbv; try simp only [wp, wpa, getL, takeL, dropL, TK.isAgg, reduceIte])
      cases y2 with
      | nil => omega
      | tok _ _ e' T' _ hk hb hcm h0 he h =>
        have t2 := (tok_shape s k e0).2.resolve_left (by simp [h0])
        obtain ⟨p1, p2, p3⟩ := y4 0 (by simp)
        rw [Nat.add_zero] at p2 p3
        have p3 : O q = k := by rw [p3]; exact t2.2.2.2.1
        have p2 : S q = (tokR s k).text := p2
        have hle := h.le
        rw [List.length_cons] at y3
        (try simp only [nc, nc'] at *)
        repeat' first | with_reducible refine And.intro ?_ ?_ | intro c9
        all_goals first
          | (exfalso; exact (by (try simp only [wf, wfa, nc, nc', Int.toNat_natCast] at *); (try simp (disch := omega) only [w64, w32, wu8] at *); omega))
          | exact (by (try simp only [wf, wfa, nc, nc', Int.toNat_natCast] at *); (try simp (disch := omega) only [w64, w32, wu8] at *); omega)
          | trivial
          | (exfalso; apply c9; ((try simp only [wf, wfa, nc, nc', Int.toNat_natCast] at *); (try simp (disch := omega) only [w64, w32, wu8] at *)); exact p3)
          | skip
        (refine Later.mk ?_; cbv; try simp only [wp, wpa, getL, takeL, dropL, TK.isAgg, reduceIte])
        have t3 := t2.2.2.1
        have t4 := t2.2.2.2.2.1
        have t5 := t2.2.2.2.2.2.1
        obtain ⟨m, hm⟩ : ∃ m, m = (S q).size := ⟨_, rfl⟩
        (try simp only [nc, nc'] at *)
        obtain ⟨u2, hu2⟩ : ∃ u2, u2 = u ++ S q := ⟨_, rfl⟩
        obtain ⟨q2, hq2⟩ : ∃ q2, q2 = q + 1 := ⟨_, rfl⟩
        have he' : e' = k + m := by rw [hm, p2]; omega
        have hz2 : u2.size = u.size + m := by rw [hu2, ByteArray.size_append, hm]
        have htx : S q = s.extract k e' := by
          rw [p2, t2.2.2.2.2.2.2, he]
          rfl
        have hst : u2 ++ stripL s e' C1 = stripS s := by
          rw [← y5, strip_ext s k e' C1 (by omega) (toks_head h hle.1), hu2, htx, ByteArray.append_assoc]
        have bk := fun s' => hBk ⟨e', q2, u2⟩ s' (by dsimp only; omega) ⟨by dsimp only; omega, by dsimp only; omega, T', C1, h, by dsimp only; omega, fun i hi => by
          have := y4 (i + 1) (by simpa using hi)
          dsimp only
          rw [show q2 + i = q + (i + 1) by omega]
          exact this, hst⟩
        repeat' first | with_reducible refine And.intro ?_ ?_ | intro c9
        all_goals first
          | exact (by (try simp only [wf, wfa, nc, nc', Int.toNat_natCast] at *); (try simp (disch := omega) only [w64, w32, wu8] at *); omega)
          | trivial
          | (refine bk _ ?_
             (cbv; try simp only [wf, wfa, exD, exL, exT, exB, exA, leLs, leL_d, leL_undef, deq_refl, deq_int, deq_bool, deq_str, and_true, true_and, AObj.iter.injEq, nc, nc']; try simp (disch := omega) only [w64, w32, wu8])
             (try simp only [nc, nc'] at *)
             rw [Int.toNat_natCast, ← hm, w64 (by omega) (by omega)]
             exact ⟨hu2.symm, by omega, by omega⟩)
      | blank _ _ _ _ hk hb h =>
        have hle := h.le
        have hno : 0 < T1.length → (k : Int) < O q := fun hl => by
          obtain ⟨a', b', _, gt, _, g3, _, _, _, g7⟩ := h.gap (by omega) 0 (by omega)
          have := (g7 hl).1
          have p3 := (y4 0 hl).2.2
          rw [Nat.add_zero] at p3
          have := gt.le
          omega
        have hbl : btF s k ≠ 45 ∧ btF s k ≠ 123 := by
          have : ((btF s k = 32 ∨ btF s k = 9) ∨ btF s k = 10) ∨ btF s k = 13 := by simpa [blankB] using hb
          omega
        obtain ⟨k2, hk2⟩ : ∃ k2, k2 = k + 1 := ⟨_, rfl⟩
        rw [← hk2] at h hle
        have hse : (s.extract k k2).size = 1 := by rw [ByteArray.size_extract]; omega
        obtain ⟨u2, hu2⟩ : ∃ u2, u2 = u ++ s.extract k k2 := ⟨_, rfl⟩
        have hst : u2 ++ stripL s k2 C1 = stripS s := by
          rw [← y5, strip_ext s k k2 C1 (by omega) (toks_head h hle.1), hu2, ByteArray.append_assoc]
        have bk := fun s' => hBk ⟨k2, q, u2⟩ s' (by dsimp only; omega) ⟨by dsimp only; omega, by dsimp only; rw [hu2, ByteArray.size_append, hse]; omega, T1, C1, h, y3, y4, hst⟩
        (try simp only [nc, nc'] at *)
        repeat' first | with_reducible refine And.intro ?_ ?_ | intro c9
        all_goals first
          | (exfalso; exact (by (try simp only [wf, wfa, nc, nc', Int.toNat_natCast] at *); (try simp (disch := omega) only [w64, w32, wu8] at *); omega))
          | exact (by (try simp only [wf, wfa, nc, nc', Int.toNat_natCast] at *); (try simp (disch := omega) only [w64, w32, wu8] at *); omega)
          | trivial
          | skip
        all_goals
          (refine Later.mk ?_; cbv; try simp only [wp, wpa, getL, takeL, dropL, TK.isAgg, reduceIte])
          refine (f23 s _ k rfl (by omega) hs).call ?_
          rintro _ ⟨x, e, hx, he, rfl⟩
          have hx2 : x = (k2 : Int) := by rw [hx, gapE, if_pos hk, if_pos hb]; omega
          clear hx he
          (cbv; try simp only [wp, wpa, getL, takeL, dropL, TK.isAgg, reduceIte])
          have hbl1 := hbl.1
          have hbl2 := hbl.2
          repeat' first | with_reducible refine And.intro ?_ ?_ | intro c9
          all_goals first
            | (exfalso; exact (by (try simp only [wf, wfa, nc, nc', Int.toNat_natCast] at *); (try simp (disch := omega) only [w64, w32, wu8] at *); omega))
            | exact (by (try simp only [wf, wfa, nc, nc', Int.toNat_natCast] at *); (try simp (disch := omega) only [w64, w32, wu8] at *); omega)
            | trivial
            | skip
          all_goals
            (refine Later.mk ?_; cbv; try simp only [wp, wpa, getL, takeL, dropL, TK.isAgg, reduceIte])
            repeat' first | with_reducible refine And.intro ?_ ?_ | intro c9
            all_goals first
              | exact (by (try simp only [wf, wfa, nc, nc', Int.toNat_natCast] at *); (try simp (disch := omega) only [w64, w32, wu8] at *); omega)
              | trivial
              | (((try simp only [wf, wfa, nc, nc', Int.toNat_natCast] at *); (try simp (disch := omega) only [w64, w32, wu8] at *))
                 rw [hx2, Int.toNat_natCast, hse]
                 omega)
              | (refine bk _ ?_
                 (cbv; try simp only [wf, wfa, exD, exL, exT, exB, exA, leLs, leL_d, leL_undef, deq_refl, deq_int, deq_bool, deq_str, and_true, true_and, AObj.iter.injEq, nc, nc']; try simp (disch := omega) only [w64, w32, wu8])
                 (try simp only [nc, nc'] at *)
                 rw [hx2, Int.toNat_natCast, Int.toNat_natCast]
                 exact ⟨hu2.symm, rfl⟩)
      | com _ _ e' _ C' hk hb hcm he h =>
        have hle := h.le
        have hc0 : ¬ comE s k < 0 := by rw [he]; omega
        have hgE : gapE s k = (e' : Int) := by rw [gapE, if_pos hk, if_neg (by simp [hb]), if_pos hcm, if_neg hc0, he]
        have h2 := (com_two s k hk hcm).2 (by omega)
        have hno : 0 < T1.length → (k : Int) < O q := fun hl => by
          obtain ⟨a', b', _, gt, _, g3, _, _, _, g7⟩ := h.gap (by omega) 0 (by omega)
          have := (g7 hl).1
          have p3 := (y4 0 hl).2.2
          rw [Nat.add_zero] at p3
          have := gt.le
          omega
        have hbl : btF s k = 45 ∨ btF s k = 123 := by
          simp only [comB, Bool.or_eq_true] at hcm
          rcases hcm with hc | hc <;> (simp [twoB] at hc; omega)
        obtain ⟨u2, hu2⟩ : ∃ u2, u2 = u ++ ⟨#[32]⟩ := ⟨_, rfl⟩
        have hst : u2 ++ stripL s e' C' = stripS s := by
          rw [← y5, strip_com, hu2, ByteArray.append_assoc]
        have hz1 : u2.size = u.size + 1 := by rw [hu2, ByteArray.size_append]; rfl
        have bk := fun s' => hBk ⟨e', q, u2⟩ s' (by dsimp only; omega) ⟨by dsimp only; omega, by dsimp only; omega, T1, C', h, y3, y4, hst⟩
        (try simp only [nc, nc'] at *)
        repeat' first | with_reducible refine And.intro ?_ ?_ | intro c9
        all_goals first
          | (exfalso; exact (by (try simp only [wf, wfa, nc, nc', Int.toNat_natCast] at *); (try simp (disch := omega) only [w64, w32, wu8] at *); omega))
          | exact (by (try simp only [wf, wfa, nc, nc', Int.toNat_natCast] at *); (try simp (disch := omega) only [w64, w32, wu8] at *); omega)
          | trivial
          | skip
        all_goals
          (refine Later.mk ?_; cbv; try simp only [wp, wpa, getL, takeL, dropL, TK.isAgg, reduceIte])
          refine (f23 s _ k rfl (by omega) hs).call ?_
          rintro _ ⟨x, e, hx, he2, rfl⟩
          have hx2 : x = (e' : Int) := hx.trans hgE
          clear hx he2
          (cbv; try simp only [wp, wpa, getL, takeL, dropL, TK.isAgg, reduceIte])
          repeat' first | with_reducible refine And.intro ?_ ?_ | intro c9
          all_goals first
            | (exfalso; exact (by (try simp only [wf, wfa, nc, nc', Int.toNat_natCast] at *); (try simp (disch := omega) only [w64, w32, wu8] at *); omega))
            | exact (by (try simp only [wf, wfa, nc, nc', Int.toNat_natCast] at *); (try simp (disch := omega) only [w64, w32, wu8] at *); omega)
            | trivial
            | skip
          all_goals
            (refine Later.mk ?_; cbv; try simp only [wp, wpa, getL, takeL, dropL, TK.isAgg, reduceIte])
            repeat' first | with_reducible refine And.intro ?_ ?_ | intro c9
            all_goals first
              | exact (by (try simp only [wf, wfa, nc, nc', Int.toNat_natCast] at *); (try simp (disch := omega) only [w64, w32, wu8] at *); omega)
              | trivial
              | (refine bk _ ?_
                 (cbv; try simp only [wf, wfa, exD, exL, exT, exB, exA, leLs, leL_d, leL_undef, deq_refl, deq_int, deq_bool, deq_str, and_true, true_and, AObj.iter.injEq, nc, nc']; try simp (disch := omega) only [w64, w32, wu8])
                 rw [hx2]
                 exact ⟨hu2.symm, rfl⟩)
              | (((try simp only [wf, wfa, nc, nc', Int.toNat_natCast] at *); (try simp (disch := omega) only [w64, w32, wu8] at *))
                 decide)
    · have e0 : k = s.size := (by (try simp only [wf, wfa, nc, nc', Int.toNat_natCast] at *); (try simp (disch := omega) only [w64, w32, wu8] at *); omega)
      subst e0
      have hT : C1 = [] := by
        cases y2 with
        | nil => rfl
        | blank _ _ _ _ hk => omega
        | com _ _ _ _ _ hk => omega
        | tok _ _ _ _ _ hk => omega
      subst hT
      have hu : u = stripS s := by
        rw [← y5]
        have : stripL s s.size [] = ByteArray.empty := by
          apply ByteArray.ext
          simp [stripL]
        rw [this]
        simp
      (refine Later.mk ?_; cbv; try simp only [wp, wpa, getL, takeL, dropL, TK.isAgg, reduceIte])
      have := fun H => hR u 0 a H k2 k3 (fun _ => hu) (fun h => absurd rfl h)
      repeat' first | exact this _ | (with_reducible refine And.intro ?_ ?_) | trivial
end Go.VM
