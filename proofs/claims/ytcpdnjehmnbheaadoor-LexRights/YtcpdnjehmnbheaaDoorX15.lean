/- Contracts of the functions that the law reaches: part of the proof (X15). -/
import Derived.Test.YtcpdnjehmnbheaaDoorX14
namespace Go.VM
open Go.Proofs Go
set_option maxRecDepth 100000
set_option linter.unusedVariables false
set_option linter.unusedSimpArgs false

theorem tok_shape (s : ByteArray) (k : Nat) (hk : k < s.size) : (tokR s k).com = false ∧ ((tokR s k).code ≠ 0 ∨ ((tokR s k).kind ≠ 0 ∧ (tokR s k).code = 0 ∧ (tokR s k).fin = k + (tokR s k).text.size ∧ (tokR s k).pos = k ∧ 1 ≤ (tokR s k).text.size ∧ (tokR s k).fin ≤ s.size ∧ (tokR s k).text = s.extract k (tokR s k).fin.toNat)) := by
  unfold tokR
  split
  · rename_i h
    refine ⟨rfl, .inr ?_⟩
    have hb := spanEnd_bounds (nameP s) s.size _ (k + 1) rfl (by omega)
    have e : nameE s k = nameE s (k + 1) := by
      rw [nameE, spanEnd, if_pos hk, if_pos (by simp [nameP, h])]
      rfl
    have hb2 : k + 1 ≤ nameE s (k + 1) ∧ nameE s (k + 1) ≤ s.size := hb
    have hz : (s.extract k (nameE s k)).size = nameE s k - k := by simp [ByteArray.size_extract]; omega
    refine ⟨by dsimp only; split <;> omega, rfl, ?_, rfl, ?_, ?_, ?_⟩ <;> dsimp only <;> first | (rw [hz]; omega) | omega | rfl
  · split
    · rename_i h
      have hb := spanEnd_bounds (fun i => digitB (btF s i)) s.size _ (k + 1) rfl (by omega)
      have e : digitsE s k = digitsE s (k + 1) := by
        rw [digitsE, spanEnd, if_pos hk, if_pos h]
        rfl
      have hb2 : k + 1 ≤ digitsE s (k + 1) ∧ digitsE s (k + 1) ≤ s.size := hb
      have hz : (s.extract k (digitsE s k)).size = digitsE s k - k := by simp [ByteArray.size_extract]; omega
      split
      · exact ⟨rfl, .inl (by simp)⟩
      · split
        · exact ⟨rfl, .inl (by simp)⟩
        · refine ⟨rfl, .inr ⟨by simp, rfl, ?_, rfl, ?_, ?_, ?_⟩⟩ <;> dsimp only <;> first | (rw [hz]; omega) | omega | rfl
    · split
      · exact ⟨rfl, .inl (by simp)⟩
      · rename_i h
        have h1 := signF_lt (nthS signsL) (s.extract k s.size) 17 0
        have h2 := signs_size (signF (nthS signsL) (s.extract k s.size) 0 17).toNat (by omega)
        have h3 := sign_at s k (by omega) _ (signF_pre (nthS signsL) (s.extract k s.size) 17 0 (by omega))
        refine ⟨rfl, .inr ⟨by simp, rfl, rfl, rfl, ?_, ?_, ?_⟩⟩ <;> dsimp only <;> first | omega | (refine h3.2.symm.trans ?_; congr 1)

theorem next_gap (s : ByteArray) (k : Nat) (hk : k < s.size) :
    (gapF s k = 10 ∧ (nextR s k).code = 10 ∧ (nextR s k).at' = k) ∨
    (gapF s k = 0 ∧ k < gapE s k ∧ gapE s k ≤ s.size ∧ (nextR s k).code = 0 ∧ (nextR s k).fin = gapE s k ∧ ((nextR s k).com = true ∨ ((nextR s k).com = false ∧ (nextR s k).kind = 0))) ∨
    (gapF s k = 0 ∧ gapE s k = k ∧ nextR s k = tokR s k) := by
  unfold nextR gapE gapF
  cases hb : blankB (btF s k) with
  | true => exact .inr (.inl ⟨by simp, by simp [hk]; omega, by simp [hk]; omega, by simp, by simp [hk], .inr (by simp)⟩)
  | false =>
    cases hc : comB s k with
    | true =>
      by_cases hn : comE s k < 0
      · exact .inl (by simp [hk, hn])
      · have := comE_bounds s k hk hc
        exact .inr (.inl ⟨by simp [hn], by simp [hk, hn]; omega, by simp [hk, hn]; omega, by simp [hn], by simp [hk, hn], .inl (by simp [hn])⟩)
    | false => exact .inr (.inr (by simp [hk]))

structure RtOk (s : ByteArray) (k n : Nat) (g : Nat → Nat → D) (T : List Nx) (C : List (Int × Int)) (f : Nat) : Prop where
  hk : k ≤ s.size
  hn : n = T.length
  hg : ∀ i j, i < T.length → j < 3 → Deq (g i j) (tokG T i j)
  lt : T.length ≤ k
  fu : s.size - k ≤ f
  run : runT s f k T C = splitS s

structure Rt where
  k : Nat
  n : Nat
  g : Nat → Nat → D

theorem f11 (s : ByteArray) (hs : s.size < 2 ^ 40) : VFun (P ()) 11 [.d (.str s)] (TokOut s) := by
  refine vfun (Tf := @T) @tabOk Tryd.func11 rfl rfl (Nat.le_of_ble_eq_true rfl) @fun ⟨_, _, _, _, _, _, _, _, _, _, _, _, _, _, _, _, _, _, _, _, _, _, _, _, _, _, _, _, _, _, _, _, _, _, _, _, _, _, wp, wf⟩ R hR => ?_
  cbv
  try simp only [wp, getL, takeL, dropL, TK.isAgg, reduceIte]
  have fault : ∀ c a H C, splitS s = ([], C, c, a) → R (A.tup [A.nils, A.agg [A.d (D.int IntKind.i64 c), A.d (D.int IntKind.i64 a)]]) H := fun c a H C e =>
    hR _ H _ (.tup2 (.nils 3 _) (.aggD [_, _])) ⟨0, c, a, _, _, _, by rw [e]; rfl, by rw [e], by rw [e], rfl, rfl, rfl, rfl⟩
  refine ⟨fun h => ?_, fun h => ?_⟩
  · exact fault 2 0 _ [] (by rw [splitS, if_pos (by (try simp only [wf, nc, nc'] at *); (try simp (disch := omega) only [w64, w32, wu8] at *); omega)])
  · have hsz : s.size ≤ 16000 := (by (try simp only [wf, nc, nc'] at *); (try simp (disch := omega) only [w64, w32, wu8] at *); omega)
    refine loopGhost 4 3 rfl ?_
    refine loopV (Tf := @T) @tabOk (fun y : Rt => ⟨mk 59 [(0, .d (.str s)), (3, .ptr 0 0), (4, .ref 1 0 y.n 3), (5, .d (.int .i64 y.k))], [.box [.d (.int .i64 0), .d (.int .i64 0)], .arr y.n 3 y.g 0]⟩) (fun y => s.size - y.k) (fun y => ∃ T C f, RtOk s y.k y.n y.g T C f) ⟨0, 0, fun _ _ => .nilp⟩ ⟨[], [], s.size, Nat.zero_le _, rfl, fun i j h => absurd h (by simp), Nat.zero_le _, by simp, by rw [splitS, if_neg (by omega)]⟩ ?_ (fun y => rfl) @fun ⟨_, _, _, _, _, _, _, _, _, _, _, _, _, _, _, _, _, _, _, _, _, _, _, _, _, _, _, _, _, _, _, _, _, _, _, _, _, _, wpa, wfa⟩ ⟨k, n, g⟩ Bk hy hBk => ?_
    · (cbv; try simp only [wf, exD, exL, exT, exB, exA, leLs, leL_d, leL_undef, deq_refl, deq_int, deq_bool, deq_str, and_true, true_and, AObj.iter.injEq, nc, nc']; try simp (disch := omega) only [w64, w32, wu8])
      simp
    (cbv; try simp only [wp, wpa, getL, takeL, dropL, TK.isAgg, reduceIte])
    obtain ⟨T, C, f, ⟨o1, o2, o4, o6, o8, o9⟩⟩ := hy
    dsimp only at o1 o2 o4 o6 o8 o9
    refine ⟨fun h => ?_, fun h => ?_⟩
    · have hk : k < s.size := by (try simp only [wf, wfa, nc, nc'] at *); omega
      obtain ⟨f', rfl⟩ : ∃ f', f = f' + 1 := ⟨f - 1, by omega⟩
      rw [runT, if_pos hk] at o9
      have gap := next_gap s k hk
      have shape := tok_shape s k hk
      refine (f23 s _ k rfl (by omega) hs).call ?_
      rintro _ ⟨x, e, hx, he, rfl⟩
      rw [← hx, ← he] at gap
      (cbv; try simp only [wp, wpa, getL, takeL, dropL, TK.isAgg, reduceIte])
      (try simp only [nc, nc'] at *)
      rcases gap with ⟨g1, g2, g3⟩ | ⟨g1, g2, g3, g4, g5, g6⟩ | ⟨g1, g2, g3⟩
      · rw [if_pos (by omega), g2, g3] at o9
        have := fun H => fault 10 k H _ o9.symm
        subst g1
        exact ⟨fun _ => this _, fun h => absurd h (by omega)⟩
      · obtain ⟨k2, hk2⟩ : ∃ k2 : Nat, x = k2 := ⟨x.toNat, by omega⟩
        rw [if_neg (by omega), g5, hk2, Int.toNat_natCast] at o9
        have run : ∃ C', runT s f' k2 T C' = splitS s := by
          rcases g6 with g6 | ⟨g6, g7⟩
          · rw [if_pos g6] at o9; exact ⟨_, o9⟩
          · rw [if_neg (by simp [g6]), if_neg (by omega)] at o9; exact ⟨_, o9⟩
        obtain ⟨C', run⟩ := run
        refine ⟨fun h => absurd g1 h, fun _ => ⟨fun _ => ?_, fun h => absurd h (by (try simp only [wf, wfa, nc, nc'] at *); (try simp (disch := omega) only [w64, w32, wu8] at *); omega)⟩⟩
        subst hk2
        refine hBk ⟨k2, n, g⟩ _ (by dsimp only; omega) ⟨T, C', f', by dsimp only; omega, o2, o4, by dsimp only; omega, by dsimp only; omega, run⟩ ?_
        (cbv; try simp only [wf, wfa, exD, exL, exT, exB, exA, leLs, leL_d, leL_undef, deq_refl, deq_int, deq_bool, deq_str, and_true, true_and, AObj.iter.injEq, nc, nc']; try simp (disch := omega) only [w64, w32, wu8])
        simp [deq_refl]
      · refine ⟨fun h => absurd g1 h, fun _ => ⟨fun h => absurd h (by (try simp only [wf, wfa, nc, nc'] at *); (try simp (disch := omega) only [w64, w32, wu8] at *); omega), fun _ => ?_⟩⟩
        refine (f24 s _ k rfl hk hs).call ?_
        rintro _ ⟨y, hy, rfl⟩
        rw [g3] at o9
        rw [← hy] at o9 shape
        obtain ⟨kind, text, pos, com, fin, code, at'⟩ := y
        dsimp only at o9 shape
        obtain ⟨rfl, shape⟩ := shape
        (cbv; try simp only [wp, wpa, getL, takeL, dropL, TK.isAgg, reduceIte])
        refine ⟨fun c0 => ?_, fun c0 => ?_⟩
        · rw [if_pos c0] at o9
          have := fun H => fault code at' H _ o9.symm
          repeat' first | exact this _ | refine ⟨?_, ?_⟩ | trivial
        · (try simp only [nc, nc'] at *)
          obtain ⟨s1, s2, s3, s4, s5, s6, s7⟩ := shape.resolve_left (by simp [c0])
          obtain ⟨m, hm⟩ : ∃ m, m = text.size := ⟨_, rfl⟩
          rw [← hm] at s3 s5
          obtain ⟨k2, hk2⟩ : ∃ k2 : Nat, fin = k2 := ⟨fin.toNat, by omega⟩
          rw [if_neg (by simp [c0]), if_neg (by simp), if_pos s1, hk2, Int.toNat_natCast] at o9
          refine ⟨fun n6 => ?_, fun n6 => ?_⟩
          · rw [if_pos (by rw [← o2]; ((try simp only [wf, wfa, nc, nc'] at *); (try simp (disch := omega) only [w64, w32, wu8] at *)); omega)] at o9
            have := fun H => fault 2 k H _ o9.symm
            repeat' first | exact this _ | refine ⟨?_, ?_⟩ | trivial
          · rw [if_neg (by rw [← o2]; ((try simp only [wf, wfa, nc, nc'] at *); (try simp (disch := omega) only [w64, w32, wu8] at *)); omega)] at o9
            obtain ⟨g2', hg2⟩ : ∃ g2, g2 = appF n g (rowF 3 [.int .i64 kind, .str text, .int .i64 pos]) := ⟨_, rfl⟩
            obtain ⟨n2, hn2⟩ : ∃ n2, n2 = n + 1 := ⟨_, rfl⟩
            have ap := tok_app T ⟨kind, text, pos, false, k2, code, at'⟩ g o4
            dsimp only at ap
            rw [← o2, ← hg2] at ap
            have hw : IntKind.i64.wrap ((k : Int) + text.size) = k2 := by rw [← hm, w64 (by omega) (by omega)]; omega
            have bk := fun s' => hBk ⟨k2, n2, g2'⟩ s' (by dsimp only; omega) ⟨_, C, f', by dsimp only; omega, by simp [hn2, o2], ap, by simp; omega, by dsimp only; omega, o9⟩
            repeat' first | refine ⟨?_, ?_⟩ | trivial
            all_goals first
              | exact (by (try simp only [wf, wfa, nc, nc'] at *); (try simp (disch := omega) only [w64, w32, wu8] at *); omega)
              | (refine bk _ ?_; (cbv; try simp only [wf, wfa, exD, exL, exT, exB, exA, leLs, leL_d, leL_undef, deq_refl, deq_int, deq_bool, deq_str, and_true, true_and, AObj.iter.injEq, nc, nc']; try simp (disch := omega) only [w64, w32, wu8]); (try simp only [nc, nc'] at *); simp [hn2, hg2, hw, deq_refl]; done)
    · have e0 : runT s f k T C = (T, C, 0, 0) := by
        cases f with
        | zero => rfl
        | succ f => rw [runT, if_neg (by (try simp only [wf, wfa, nc, nc'] at *); (try simp (disch := omega) only [w64, w32, wu8] at *); omega)]
      rw [e0] at o9
      have d1 : Deq (.sl n 3 g) (.sl T.length 3 (tokG T)) := by rw [o2]; exact .sl _ _ _ _ o4
      refine hR _ _ _ (.tup2 (.deq _ _ _ (.ref0 1 n 3 n 0 g rfl rfl) d1) (.aggD [_, _])) ⟨T.length, 0, 0, _, _, _, ?_, ?_, ?_, rfl, rfl, rfl, ?_⟩ <;> rw [← o9]
      rfl
end Go.VM
