/- Part of the proof: TT24. -/
import Derived.Test.YtfbecfnagidioaaDoorGX17
import Derived.Test.YtfbecfnagidioaaDoorGX15
import Derived.Test.YtfbecfnagidioaaDoorGX7
namespace Go.VM
open Go.Proofs Go
set_option maxRecDepth 100000
set_option linter.unusedVariables false
set_option linter.unusedSimpArgs false
theorem cloneT (t : Tm) (hs : 4 * nodesT t ≤ 1000000) : VFun (P ()) 61 [tm t] (fun r => r = tm t) := by
  have hw : VFun (P ()) 51 [tm t, .clo 87 [] []] (fun r => r = tm t) := VCalls.pureC2 (mappedC t hs) rfl rfl fun r H h => by
    obtain ⟨K2, rfl, _⟩ := h
    exact ⟨_, .keep _ (belA_ok rfl), rfl⟩
  unfold tm at hw ⊢
  obtain ⟨f, hf⟩ : ∃ f, f = tmD t := ⟨_, rfl⟩
  rw [← hf] at hw ⊢
  clear hf
  refine vfunL (Tf := fun {_} _ => fzT [1] (T ())) (fun {_} => tabOk.frz [1]) [] 400 Tryd.func61 rfl (fun {_} => by kernel_rfl) rfl (Nat.le_of_ble_eq_true rfl) @fun ⟨_, _, _, _, _, _, _, _, _, _, _, _, _, _, _, _, _, _, _, _, _, _, _, _, _, _, _, _, _, _, _, _, _, _, _, _, _, _, wp, wf⟩ R hR => ?_
  cbv
  try simp only [wp, (show ∀ n : Nat, _ = n from fun n => wf.2.2.2.2.2.2.2.2.2.2.2.2.2.1 (Int.ofNat n)), getL, takeL, dropL, TK.isAgg, reduceIte]
  repeat' first | (with_reducible refine And.intro ?_ ?_) | intro c9 | trivial | (refine Later.mk ?_; cbv; try simp only [wp, (show ∀ n : Nat, _ = n from fun n => wf.2.2.2.2.2.2.2.2.2.2.2.2.2.1 (Int.ofNat n)), (show _ = (0 : Nat) from wf.2.2.2.2.2.2.2.2.2.2.2.2.2.1 0), getL, takeL, dropL, TK.isAgg, reduceIte])
  refine hw.call ?_
  rintro _ rfl
  (cbv; try simp only [wp, (show ∀ n : Nat, _ = n from fun n => wf.2.2.2.2.2.2.2.2.2.2.2.2.2.1 (Int.ofNat n)), (show _ = (0 : Nat) from wf.2.2.2.2.2.2.2.2.2.2.2.2.2.1 0), getL, takeL, dropL, TK.isAgg, reduceIte])
  repeat' first | (with_reducible refine And.intro ?_ ?_) | intro c9 | trivial | (refine Later.mk ?_; cbv; try simp only [wp, (show ∀ n : Nat, _ = n from fun n => wf.2.2.2.2.2.2.2.2.2.2.2.2.2.1 (Int.ofNat n)), (show _ = (0 : Nat) from wf.2.2.2.2.2.2.2.2.2.2.2.2.2.1 0), getL, takeL, dropL, TK.isAgg, reduceIte])
  all_goals exact hR _ _ _ (.same5 _ _ _ _ _) rfl
/-- a term's cells -/
structure Nd where
  op : Int
  n : Int
  s : ByteArray
  k : Nat
  C : Nat → Int
  N : Nat → Nat
  W : Nat → Nat → Int
  Q : Nat → Nat → Int
  m : Nat
  G : Nat → Nat → D
def NdOk (x : Tm) (op n : Int) (s : ByteArray) (k : Nat) (C : Nat → Int) (N : Nat → Nat) (W Q : Nat → Nat → Int) (m : Nat) (G : Nat → Nat → D) : Prop :=
  tm x = tml op n s k C N W Q m G ∧ op = opcT x ∧ m = lenT x ∧ ∀ i : Int, 0 ≤ i → i < m → tm (kidT x i) = kid G i.toNat
theorem nd_of (x : Tm) : ∃ op n s k C N W Q m G, NdOk x op n s k C N W Q m G := by
  refine Tm.walk (P := fun x => ∃ op n s k C N W Q m G, NdOk x op n s k C N W Q m G) ?_ x
  intro op n s k C N W Q m ok K G hG e _
  refine ⟨op, n, s, k, C, N, W, Q, m, G, e, rfl, rfl, fun i h0 h1 => ?_⟩
  rw [← hG i.toNat (by omega)]
  unfold Tm.nd kidT
  simp only [dif_pos (show 0 ≤ i ∧ i < (m : Int) from ⟨h0, h1⟩)]
theorem kid_small {x : Tm} {i : Int} {b : Nat} (h : 0 ≤ i ∧ i < lenT x) (hs : nodesT x ≤ b) : nodesT (kidT x i) ≤ b := by
  cases x with | mk op n s k C N W Q m ok L =>
  have h : 0 ≤ i ∧ i < m := h
  have e : kidT (.mk op n s k C N W Q m ok L) i = L ⟨i.toNat, by omega⟩ := dif_pos h
  rw [e]
  unfold nodesT at hs
  have := sumF_one (f := fun i => if h : i < m then nodesT (L ⟨i, h⟩) else 0) (n := m) (i := i.toNat) (by omega)
  rw [dif_pos (show i.toNat < m by omega)] at this
  omega
/-- what At returns -/
def AtR (U : Nat → Int) (t : Tm) (p : Nat) (r : A) : Prop := (∃ x n, atA p U t 0 = some (x, n) ∧ r = .tup [tm x, .d (.int .i64 n), .d (.int .i64 0)]) ∨ (atA p U t 0 = none ∧ r = .tup [tm Tm.leaf, .d (.int .i64 0), .d (.int .i64 30)])
set_option maxHeartbeats 4000000 in
theorem AtT (t : Tm) (p : Nat) (U : Nat → Int) (hp : p ≤ 400) (hs : 4 * nodesT t ≤ 1000000) : VFun (P ()) 37 [tm t, .d (.sl p 1 (isF U))] (AtR U t p) := by
  have hs0 : nodesT t ≤ 250000 := by omega
  obtain ⟨op, n, s, k, C, N, W, Q, m, G, e, h1, h2, h3⟩ := nd_of t
  obtain ⟨g3, g4, el⟩ := tm_leaf
  rw [e]
  refine vfunL (Tf := fun {_} _ => fzT [] (T ())) (fun {_} => tabOk.frz []) [] 400 Tryd.func37 rfl (fun {_} => by kernel_rfl) rfl (Nat.le_of_ble_eq_true rfl) @fun ⟨_, _, _, _, _, _, _, _, _, _, _, _, _, _, _, _, _, _, _, _, _, _, _, _, _, _, _, _, _, _, _, _, _, _, _, _, _, _, wp, wf⟩ R hR => ?_
  cbv
  try simp only [wp, (show ∀ n : Nat, _ = n from fun n => wf.2.2.2.2.2.2.2.2.2.2.2.2.2.1 (Int.ofNat n)), getL, takeL, dropL, TK.isAgg, reduceIte]
  replace hR := fun r y H hf hy => hR r H y hf hy
  refine loopL (Tf := fun {_} _ => fzT [] (T ())) (fun {_} => tabOk.frz []) [] 400 (fun y : Nat × Tm × Int × Nd => ⟨[.undef, .d (.sl p 1 (isF U)), .ptr 0 0, .undef, .ptr 1 0, .d (.int .i64 0), .d (.int .i64 0), .d (.int .i64 y.2.2.1), .undef, .undef, .d (.sl p 1 (isF U)), .d (.int .i64 p), .d (.int .i64 y.1), .undef, .undef, .undef, .undef, .undef, .undef, .undef, .undef, .undef, .undef, .undef, .undef, .undef, .undef, .undef, .undef, .undef, .undef, .undef, .undef, .undef, .undef, .undef, .undef, .undef, .undef, .undef], [.box [.d (.int .i64 y.2.2.2.op), .d (.int .i64 y.2.2.2.n), .d (.str y.2.2.2.s), .d (.sl y.2.2.2.k 2 (lsF y.2.2.2.C y.2.2.2.N y.2.2.2.W y.2.2.2.Q)), .d (.sl y.2.2.2.m 5 y.2.2.2.G)], .box [.undef, .undef, .undef, .undef, .undef]]⟩) (fun y => p - y.1)
    (fun y => y.1 ≤ p ∧ (0 ≤ y.2.2.1 ∧ y.2.2.1 ≤ 3 * y.1) ∧ nodesT y.2.1 ≤ 250000 ∧ NdOk y.2.1 y.2.2.2.op y.2.2.2.n y.2.2.2.s y.2.2.2.k y.2.2.2.C y.2.2.2.N y.2.2.2.W y.2.2.2.Q y.2.2.2.m y.2.2.2.G ∧ atA (p - y.1) (fun i => U (y.1 + i)) y.2.1 y.2.2.1 = atA p U t 0) (0, t, 0, ⟨op, n, s, k, C, N, W, Q, m, G⟩) ⟨Nat.zero_le _, ⟨Int.le_refl _, Int.le_refl _⟩, hs0, ⟨e, h1, h2, h3⟩, by simp⟩ (fun {_} => by kernel_rfl) ?_ (fun i => by kernel_rfl) @fun ⟨_, _, _, _, _, _, _, _, _, _, _, _, _, _, _, _, _, _, _, _, _, _, _, _, _, _, _, _, _, _, _, _, _, _, _, _, _, _, wpa, wfa⟩ ⟨j, x, nn, op, n, s, k, C, N, W, Q, m, G⟩ Bk hi hBk => ?_
  · (cbv; try simp only [wf, exD, exL, exT, exB, exA, leLs, leL_d, leL_undef, leL_nils, leA_nils, deq_refl, deq_int, deq_bool, deq_str, and_true, true_and, AObj.iter.injEq, nc, nc']; try simp (disch := omega) only [w64, w32, wu8])
    rfl
  obtain ⟨i1, i2, i3, ⟨e, h1, h2, h3⟩, i4⟩ := hi
  dsimp only at i1 i2 i3 e h1 h2 h3 i4
  (cbv; try simp only [wp, (show ∀ n : Nat, _ = n from fun n => wf.2.2.2.2.2.2.2.2.2.2.2.2.2.1 (Int.ofNat n)), (show _ = (0 : Nat) from wf.2.2.2.2.2.2.2.2.2.2.2.2.2.1 0), wpa, (show ∀ n : Nat, _ = n from fun n => wfa.2.2.2.2.2.2.2.2.2.2.2.2.2.1 (Int.ofNat n)), (show _ = (0 : Nat) from wfa.2.2.2.2.2.2.2.2.2.2.2.2.2.1 0), getL, takeL, dropL, TK.isAgg, reduceIte])
  refine ⟨fun e1 => ?_, fun e1 => ?_⟩
  · have e1 : j < p := (by (try simp only [wf, wfa, nc, nc', Int.toNat_natCast, bsz, ByteArray.size_append, List.length_cons, List.length_nil] at *); (try simp (disch := omega) only [w64, w32, wu8] at *); first | done | omega)
    have step : atA p U t 0 = if 0 ≤ U j ∧ U j < m then atA (p - (j + 1)) (fun i => U (j + 1 + i)) (kidT x (U j)) (nn + bindI op m (U j)) else none := by
      rw [← i4, show p - j = (p - (j + 1)) + 1 by omega, atA, Nat.add_zero, ← h1, ← h2]
      rw [show (fun i => U (j + (i + 1))) = fun i => U (j + 1 + i) from funext fun i => congrArg U (by omega)]
    have m1 : m ≤ 250000 := by
      rw [h2]
      cases x with | mk op n s k C N W Q m ok L =>
      unfold nodesT at i3
      have := sumF_ge (f := fun i => if h : i < m then nodesT (L ⟨i, h⟩) else 1) (fun i => by split; exact nodesT_pos _; exact Nat.le_refl _) m
      rw [sumF_congr (g := fun i => if h : i < m then nodesT (L ⟨i, h⟩) else 0) fun i hi => by rw [dif_pos hi, dif_pos hi]] at this
      show m ≤ 250000
      omega
    have hb := bindsT op n s k C N W Q m G (U j) (by omega)
    have hbl := bindI_le op m (U j)
    have hn : ¬ (0 ≤ U j ∧ U j < m) → ∀ H, R (.tup [.agg [.d (.int .i64 0), .d (.int .i64 0), .d (.str ByteArray.empty), .nils, .nils], .d (.int .i64 0), .d (.int .i64 30)]) H := fun h H => hR _ _ H (.tup3 (.z5 g3 g4 _ _ _) (.d _) (.d _)) (.inr ⟨by rw [step, if_neg h], by rw [el]⟩)
    (refine Later.mk ?_; cbv; try simp only [wp, (show ∀ n : Nat, _ = n from fun n => wf.2.2.2.2.2.2.2.2.2.2.2.2.2.1 (Int.ofNat n)), (show _ = (0 : Nat) from wf.2.2.2.2.2.2.2.2.2.2.2.2.2.1 0), wpa, (show ∀ n : Nat, _ = n from fun n => wfa.2.2.2.2.2.2.2.2.2.2.2.2.2.1 (Int.ofNat n)), (show _ = (0 : Nat) from wfa.2.2.2.2.2.2.2.2.2.2.2.2.2.1 0), getL, takeL, dropL, TK.isAgg, reduceIte])
    repeat' first | (with_reducible refine And.intro ?_ ?_) | intro c9 | trivial | (refine Later.mk ?_; cbv; try simp only [wp, (show ∀ n : Nat, _ = n from fun n => wf.2.2.2.2.2.2.2.2.2.2.2.2.2.1 (Int.ofNat n)), (show _ = (0 : Nat) from wf.2.2.2.2.2.2.2.2.2.2.2.2.2.1 0), wpa, (show ∀ n : Nat, _ = n from fun n => wfa.2.2.2.2.2.2.2.2.2.2.2.2.2.1 (Int.ofNat n)), (show _ = (0 : Nat) from wfa.2.2.2.2.2.2.2.2.2.2.2.2.2.1 0), getL, takeL, dropL, TK.isAgg, reduceIte])
    all_goals first
      | exact (by (try simp only [wf, wfa, nc, nc', Int.toNat_natCast, bsz, ByteArray.size_append, List.length_cons, List.length_nil] at *); (try simp (disch := omega) only [w64, w32, wu8] at *); first | done | omega)
      | exact hn (by clear hn hR hBk; exact (by (try simp only [wf, wfa, nc, nc', Int.toNat_natCast, bsz, ByteArray.size_append, List.length_cons, List.length_nil] at *); (try simp (disch := omega) only [w64, w32, wu8] at *); first | done | omega)) _
      | skip
    have hu : 0 ≤ U j ∧ U j < m := by clear hn hR hBk; exact (by (try simp only [wf, wfa, nc, nc', Int.toNat_natCast, bsz, ByteArray.size_append, List.length_cons, List.length_nil] at *); (try simp (disch := omega) only [w64, w32, wu8] at *); first | done | omega)
    rw [if_pos hu] at step
    refine hb.call ?_
    rintro _ rfl
    obtain ⟨op', n', s', k', C', N', W', Q', m', G', e', h1', h2', h3'⟩ := nd_of (kidT x (U j))
    have ek := (h3 (U j) hu.1 hu.2).symm.trans e'
    obtain ⟨bi, hbi⟩ : ∃ bi, bi = bindI op m (U j) := ⟨_, rfl⟩
    rw [← hbi] at hbl step ⊢
    (cbv; try simp only [wp, (show ∀ n : Nat, _ = n from fun n => wf.2.2.2.2.2.2.2.2.2.2.2.2.2.1 (Int.ofNat n)), (show _ = (0 : Nat) from wf.2.2.2.2.2.2.2.2.2.2.2.2.2.1 0), wpa, (show ∀ n : Nat, _ = n from fun n => wfa.2.2.2.2.2.2.2.2.2.2.2.2.2.1 (Int.ofNat n)), (show _ = (0 : Nat) from wfa.2.2.2.2.2.2.2.2.2.2.2.2.2.1 0), getL, takeL, dropL, TK.isAgg, reduceIte])
    repeat' first | (with_reducible refine And.intro ?_ ?_) | intro c9 | trivial | (refine Later.mk ?_; cbv; try simp only [wp, (show ∀ n : Nat, _ = n from fun n => wf.2.2.2.2.2.2.2.2.2.2.2.2.2.1 (Int.ofNat n)), (show _ = (0 : Nat) from wf.2.2.2.2.2.2.2.2.2.2.2.2.2.1 0), wpa, (show ∀ n : Nat, _ = n from fun n => wfa.2.2.2.2.2.2.2.2.2.2.2.2.2.1 (Int.ofNat n)), (show _ = (0 : Nat) from wfa.2.2.2.2.2.2.2.2.2.2.2.2.2.1 0), getL, takeL, dropL, TK.isAgg, reduceIte])
    have i2b : 0 ≤ nn ∧ nn ≤ 3 * (j : Int) := i2
    obtain ⟨nb, hnb⟩ : ∃ nb, nb = nn + bi := ⟨_, rfl⟩
    rw [← hnb] at step
    refine hBk (j + 1, kidT x (U j), nb, ⟨op', n', s', k', C', N', W', Q', m', G'⟩) _ (by dsimp only; omega) ⟨by dsimp only; omega, (show 0 ≤ nb ∧ nb ≤ 3 * ((j + 1 : Nat) : Int) by omega), kid_small (by rw [← h2]; exact hu) i3, ⟨e', h1', h2', h3'⟩, step.symm⟩ ?_
    have ek2 : kid G (U j).toNat = tml op' n' s' k' C' N' W' Q' m' G' := ek
    injection ek2 with ek2
    simp only [List.cons.injEq, A.d.injEq] at ek2
    obtain ⟨k0, k1, k2, k3, k4, _⟩ := ek2
    (cbv; try simp only [wf, wfa, exD, exL, exT, exB, exA, leLs, leL_d, leL_undef, leL_nils, leA_nils, deq_refl, deq_int, deq_bool, deq_str, and_true, true_and, AObj.iter.injEq, nc, nc']; try simp (disch := omega) only [w64, w32, wu8])
    clear hn hR hBk h3'
    ((try simp only [wf, wfa, nc, nc', Int.toNat_natCast, bsz, ByteArray.size_append, List.length_cons, List.length_nil] at *); (try simp (disch := omega) only [w64, w32, wu8] at *))
    rw [k0, k1, k2, k3, k4]
    exact ⟨⟨by omega, by omega⟩, .refl _, .refl _, .refl _, .refl _, .refl _⟩
  · obtain rfl : j = p := (by (try simp only [wf, wfa, nc, nc', Int.toNat_natCast, bsz, ByteArray.size_append, List.length_cons, List.length_nil] at *); (try simp (disch := omega) only [w64, w32, wu8] at *); first | done | omega)
    rw [Nat.sub_self, atA] at i4
    have hc := cloneT x (by omega)
    rw [e] at hc
    (refine Later.mk ?_; cbv; try simp only [wp, (show ∀ n : Nat, _ = n from fun n => wf.2.2.2.2.2.2.2.2.2.2.2.2.2.1 (Int.ofNat n)), (show _ = (0 : Nat) from wf.2.2.2.2.2.2.2.2.2.2.2.2.2.1 0), wpa, (show ∀ n : Nat, _ = n from fun n => wfa.2.2.2.2.2.2.2.2.2.2.2.2.2.1 (Int.ofNat n)), (show _ = (0 : Nat) from wfa.2.2.2.2.2.2.2.2.2.2.2.2.2.1 0), getL, takeL, dropL, TK.isAgg, reduceIte])
    repeat' first | (with_reducible refine And.intro ?_ ?_) | intro c9 | trivial | (refine Later.mk ?_; cbv; try simp only [wp, (show ∀ n : Nat, _ = n from fun n => wf.2.2.2.2.2.2.2.2.2.2.2.2.2.1 (Int.ofNat n)), (show _ = (0 : Nat) from wf.2.2.2.2.2.2.2.2.2.2.2.2.2.1 0), wpa, (show ∀ n : Nat, _ = n from fun n => wfa.2.2.2.2.2.2.2.2.2.2.2.2.2.1 (Int.ofNat n)), (show _ = (0 : Nat) from wfa.2.2.2.2.2.2.2.2.2.2.2.2.2.1 0), getL, takeL, dropL, TK.isAgg, reduceIte])
    all_goals
      refine hc.call ?_
      rintro _ rfl
      (cbv; try simp only [wp, (show ∀ n : Nat, _ = n from fun n => wf.2.2.2.2.2.2.2.2.2.2.2.2.2.1 (Int.ofNat n)), (show _ = (0 : Nat) from wf.2.2.2.2.2.2.2.2.2.2.2.2.2.1 0), wpa, (show ∀ n : Nat, _ = n from fun n => wfa.2.2.2.2.2.2.2.2.2.2.2.2.2.1 (Int.ofNat n)), (show _ = (0 : Nat) from wfa.2.2.2.2.2.2.2.2.2.2.2.2.2.1 0), getL, takeL, dropL, TK.isAgg, reduceIte])
      repeat' first | (with_reducible refine And.intro ?_ ?_) | intro c9 | trivial | (refine Later.mk ?_; cbv; try simp only [wp, (show ∀ n : Nat, _ = n from fun n => wf.2.2.2.2.2.2.2.2.2.2.2.2.2.1 (Int.ofNat n)), (show _ = (0 : Nat) from wf.2.2.2.2.2.2.2.2.2.2.2.2.2.1 0), wpa, (show ∀ n : Nat, _ = n from fun n => wfa.2.2.2.2.2.2.2.2.2.2.2.2.2.1 (Int.ofNat n)), (show _ = (0 : Nat) from wfa.2.2.2.2.2.2.2.2.2.2.2.2.2.1 0), getL, takeL, dropL, TK.isAgg, reduceIte])
    all_goals exact hR _ _ _ (.tup3 (.same5 _ _ _ _ _) (.d _) (.d _)) (.inl ⟨x, nn, i4.symm, by rw [e]⟩)
end Go.VM
