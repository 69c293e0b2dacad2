/- Part of the proof: TT18. -/
import Derived.Test.YtfbecfnagidioaaGreatDoorGX16
import Derived.Test.YtfbecfnagidioaaGreatDoorGX17
import Derived.Test.YtfbecfnagidioaaGreatDoorGX14
namespace Go.VM
open Go.Proofs Go
set_option maxRecDepth 100000
set_option linter.unusedVariables false
set_option linter.unusedSimpArgs false
abbrev hpSw (frm by' : Int) (y : Bool) : AHeap := [.box [.d (.int .i64 frm)], .box [.d (.int .i64 by')], .box [.d (.bool y)], .box [.clo 73 [] [.ptr 3 0, .ptr 4 0]], .box [.clo 44 [] [.ptr 0 0, .ptr 1 0, .ptr 2 0]]]
set_option maxHeartbeats 4000000 in
theorem walkSh (frm by' : Int) (h3 : 0 ≤ frm ∧ frm ≤ 2147483648) (h4 : -2147483648 ≤ by' ∧ by' ≤ 2147483648) (t : Tm) : ∀ (d : Int) (y : Bool), 0 ≤ d → d + 4 * nodesT t ≤ 4194304 →
    VCalls (P ()) 73 [tm t, .d (.int .i64 d), .ptr 3 0, .ptr 4 0] (hpSw frm by' y) (fun r H => r = tm (mapT (fSh by' frm) t d) ∧ H = hpSw frm by' (runT (stSh by' frm) t d y)) := by
  refine Tm.walk (P := fun t => ∀ (d : Int) (y : Bool), 0 ≤ d → d + 4 * nodesT t ≤ 4194304 →
    VCalls (P ()) 73 [tm t, .d (.int .i64 d), .ptr 3 0, .ptr 4 0] (hpSw frm by' y) (fun r H => r = tm (mapT (fSh by' frm) t d) ∧ H = hpSw frm by' (runT (stSh by' frm) t d y))) ?_ t
  clear t
  intro op n s k C N W Q m ok K G hG e ih d y hd hs
  rw [nodesT_nd] at hs
  have b1 := sumF_ge (f := fun i => 1 + N i) (fun i => by omega) k
  have b2 := sumF_ge (f := fun i => nodesT (K i)) (fun i => nodesT_pos _) m
  have b3 : ∀ i, i < k → N i ≤ 1048575 := fun i hi => by have := sumF_one (f := fun i => 1 + N i) hi; omega
  have b4 : ∀ i, i < m → d + 3 + 4 * nodesT (K i) ≤ 4194304 := fun i hi => by have := sumF_one (f := fun i => nodesT (K i)) hi; omega
  rw [e, sh_nd, runT_nd]
  obtain ⟨G', hG', e'⟩ := tm_rows (op := op) (n := n) (s := s) (k := k) (C := C) (N := N) (W := W) (Q := Q) (m := m) (ok := ok) fun i => mapT (fSh by' frm) (K i) (d + bindI op m i)
  rw [e']
  obtain ⟨gd, hgd⟩ : ∃ gd : Nat → Bool → Bool, gd = fun i z => runT (stSh by' frm) (K i) (d + bindI op m i) z := ⟨_, rfl⟩
  have ih' : ∀ i, i < m → ∀ (d' : Int) z, d' = d + bindI op m i → VCalls (P ()) 73 [kid G i, .d (.int .i64 d'), .ptr 3 0, .ptr 4 0] (hpSw frm by' z) (fun r H => r = kid G' i ∧ H = hpSw frm by' (gd i z)) := fun i hi d' z hd' => by
    have hb := bindI_le op m i
    have := ih i hi d' z (by omega) (by have := b4 i hi; omega)
    rw [hG i hi, hd', hG' i hi] at this
    rw [hgd]
    rw [hd']
    exact this
  rw [← hgd]
  have b6 : d ≤ 4194304 := by omega
  have b5 : k ≤ 4194304 ∧ m ≤ 4194304 := ⟨by omega, by omega⟩
  clear ih e e' hG hG' hgd b4 b2 b1 hs
  have hc := copied k C N W Q (by omega) (fun i hi => by have := b3 i hi; omega)
  have hbd := fun i => bindsT op n s k C N W Q m G i (by omega)
  refine VCalls.ice (R1 := fun r H => ∃ K2, H = hpSw frm by' (if IsV op n then stSh by' frm n d (foldF gd m y) else foldF gd m y) ++ K2 ∧ FrzM 5 (fun i => i) H r (tml op (shN by' frm op n d) s k C N W Q m G')) ?_ rfl rfl rfl rfl fun r H' h => by
    obtain ⟨K2, e, f⟩ := h
    exact ⟨_, _, K2, e, rfl, f, ⟨trivial, trivial, trivial, trivial, trivial, trivial⟩, rfl, rfl, rfl, rfl⟩
  refine VCalls_of_Wl (Tf := fun {_} _ => fzT [] (T ())) (fun {_} => tabOk.frz []) [] 400 Tryz.func73 rfl (fun {_} => by kernel_rfl) (Nat.le_of_ble_eq_true rfl) @fun ⟨_, _, _, _, _, _, _, _, _, _, _, _, _, _, _, _, _, _, _, _, _, _, _, _, _, _, _, _, _, _, _, _, _, _, _, _, _, _, wp, wf⟩ nH R hnH hR => ?_
  subst hnH
  cbv
  try simp only [wp, (show ∀ n : Nat, _ = n from fun n => wf.2.2.2.2.2.2.2.2.2.2.2.2.2.1 (Int.ofNat n)), getL, takeL, dropL, TK.isAgg, reduceIte]
  refine hc.call ?_
  rintro _ rfl
  (cbv; try simp only [wp, (show ∀ n : Nat, _ = n from fun n => wf.2.2.2.2.2.2.2.2.2.2.2.2.2.1 (Int.ofNat n)), (show _ = (0 : Nat) from wf.2.2.2.2.2.2.2.2.2.2.2.2.2.1 0), getL, takeL, dropL, TK.isAgg, reduceIte])
  repeat' first | (with_reducible refine And.intro ?_ ?_) | intro c9 | trivial | (refine Later.mk ?_; cbv; try simp only [wp, (show ∀ n : Nat, _ = n from fun n => wf.2.2.2.2.2.2.2.2.2.2.2.2.2.1 (Int.ofNat n)), (show _ = (0 : Nat) from wf.2.2.2.2.2.2.2.2.2.2.2.2.2.1 0), getL, takeL, dropL, TK.isAgg, reduceIte])
  obtain ⟨Yf, hY⟩ : ∃ Yf : Nat → Bool, Yf = fun i => foldF gd i y := ⟨_, rfl⟩
  have Y0 : Yf 0 = y := by rw [hY]; rfl
  have Y1 : ∀ i, Yf (i + 1) = gd i (Yf i) := fun i => by rw [hY]; rfl
  have Ym : foldF gd m y = Yf m := by rw [hY]
  rw [Ym] at hR
  rw [← Y0]
  clear hY Ym Y0
  refine loopGhost 7 5 rfl ?_
  refine loopL (Tf := fun {_} _ => fzT [] (T ())) (fun {_} => tabOk.frz []) [] 400 (fun i : Nat => ⟨[.undef, .d (.int .i64 d), .ptr 3 0, .ptr 4 0, .ptr 5 0, .undef, .ptr 6 0, .ref 7 0 i 5, .undef, .undef, .undef, .undef, .undef, .undef, .undef, .d (.sl m 5 G), .d (.int .i64 m), .d (.int .i64 i), .undef, .undef, .undef, .undef, .undef, .undef, .undef, .undef, .undef, .undef, .undef, .undef, .undef, .undef, .undef, .undef, .undef, .undef, .undef, .undef, .undef, .undef, .undef, .undef, .undef],
    [.box [.d (.int .i64 frm)], .box [.d (.int .i64 by')], .box [.d (.bool (Yf i))], .box [.clo 73 [] [.ptr 3 0, .ptr 4 0]], .box [.clo 44 [] [.ptr 0 0, .ptr 1 0, .ptr 2 0]], .box [.d (.int .i64 op), .d (.int .i64 n), .d (.str s), .d (.sl k 2 (lsF C N W Q)), .d (.sl m 5 G)], .box [.undef, .undef, .undef, .undef, .undef], .arr i 5 G' 0]⟩) (fun i => m - i) (fun i => i ≤ m) 0 (Nat.zero_le _) (fun {_} => by kernel_rfl) ?_ (fun i => by kernel_rfl) @fun ⟨_, _, _, _, _, _, _, _, _, _, _, _, _, _, _, _, _, _, _, _, _, _, _, _, _, _, _, _, _, _, _, _, _, _, _, _, _, _, wpa, wfa⟩ i Bk hi hBk => ?_
  · (cbv; try simp only [wf, exD, exL, exT, exB, exA, leLs, leL_d, leL_undef, leL_nils, leA_nils, deq_refl, deq_int, deq_bool, deq_str, and_true, true_and, AObj.iter.injEq, nc, nc']; try simp (disch := omega) only [w64, w32, wu8])
    exact ⟨rfl, rfl, rfl, Nat.le_refl _, Nat.le_refl _, fun i j hi => absurd hi (Nat.not_lt_zero _)⟩
  (cbv; try simp only [wp, (show ∀ n : Nat, _ = n from fun n => wf.2.2.2.2.2.2.2.2.2.2.2.2.2.1 (Int.ofNat n)), (show _ = (0 : Nat) from wf.2.2.2.2.2.2.2.2.2.2.2.2.2.1 0), wpa, (show ∀ n : Nat, _ = n from fun n => wfa.2.2.2.2.2.2.2.2.2.2.2.2.2.1 (Int.ofNat n)), (show _ = (0 : Nat) from wfa.2.2.2.2.2.2.2.2.2.2.2.2.2.1 0), getL, takeL, dropL, TK.isAgg, reduceIte])
  refine ⟨fun e => ?_, fun e => ?_⟩
  · have e : i < m := (by (try simp only [wf, wfa, nc, nc', Int.toNat_natCast, bsz, ByteArray.size_append, List.length_cons, List.length_nil] at *); (try simp (disch := omega) only [w64, w32, wu8] at *); first | done | omega)
    (refine Later.mk ?_; cbv; try simp only [wp, (show ∀ n : Nat, _ = n from fun n => wf.2.2.2.2.2.2.2.2.2.2.2.2.2.1 (Int.ofNat n)), (show _ = (0 : Nat) from wf.2.2.2.2.2.2.2.2.2.2.2.2.2.1 0), wpa, (show ∀ n : Nat, _ = n from fun n => wfa.2.2.2.2.2.2.2.2.2.2.2.2.2.1 (Int.ofNat n)), (show _ = (0 : Nat) from wfa.2.2.2.2.2.2.2.2.2.2.2.2.2.1 0), getL, takeL, dropL, TK.isAgg, reduceIte])
    repeat' first | (with_reducible refine And.intro ?_ ?_) | intro c9 | trivial | (refine Later.mk ?_; cbv; try simp only [wp, (show ∀ n : Nat, _ = n from fun n => wf.2.2.2.2.2.2.2.2.2.2.2.2.2.1 (Int.ofNat n)), (show _ = (0 : Nat) from wf.2.2.2.2.2.2.2.2.2.2.2.2.2.1 0), wpa, (show ∀ n : Nat, _ = n from fun n => wfa.2.2.2.2.2.2.2.2.2.2.2.2.2.1 (Int.ofNat n)), (show _ = (0 : Nat) from wfa.2.2.2.2.2.2.2.2.2.2.2.2.2.1 0), getL, takeL, dropL, TK.isAgg, reduceIte])
    all_goals first | exact (by (try simp only [wf, wfa, nc, nc', Int.toNat_natCast, bsz, ByteArray.size_append, List.length_cons, List.length_nil] at *); (try simp (disch := omega) only [w64, w32, wu8] at *); first | done | omega) | skip
    all_goals
      refine (hbd i).call ?_
      rintro _ rfl
      obtain ⟨bi, hbi⟩ : ∃ bi, bi = bindI op m i := ⟨_, rfl⟩
      have hbl := bindI_le op m i
      rw [← hbi] at hbl ⊢
      (cbv; try simp only [wp, (show ∀ n : Nat, _ = n from fun n => wf.2.2.2.2.2.2.2.2.2.2.2.2.2.1 (Int.ofNat n)), (show _ = (0 : Nat) from wf.2.2.2.2.2.2.2.2.2.2.2.2.2.1 0), wpa, (show ∀ n : Nat, _ = n from fun n => wfa.2.2.2.2.2.2.2.2.2.2.2.2.2.1 (Int.ofNat n)), (show _ = (0 : Nat) from wfa.2.2.2.2.2.2.2.2.2.2.2.2.2.1 0), getL, takeL, dropL, TK.isAgg, reduceIte])
      repeat' first | (with_reducible refine And.intro ?_ ?_) | intro c9 | trivial | (refine Later.mk ?_; cbv; try simp only [wp, (show ∀ n : Nat, _ = n from fun n => wf.2.2.2.2.2.2.2.2.2.2.2.2.2.1 (Int.ofNat n)), (show _ = (0 : Nat) from wf.2.2.2.2.2.2.2.2.2.2.2.2.2.1 0), wpa, (show ∀ n : Nat, _ = n from fun n => wfa.2.2.2.2.2.2.2.2.2.2.2.2.2.1 (Int.ofNat n)), (show _ = (0 : Nat) from wfa.2.2.2.2.2.2.2.2.2.2.2.2.2.1 0), getL, takeL, dropL, TK.isAgg, reduceIte])
    all_goals
      refine CallW.within (ih' i e _ (Yf i) (by rw [← hbi]; exact (by (try simp only [wf, wfa, nc, nc', Int.toNat_natCast, bsz, ByteArray.size_append, List.length_cons, List.length_nil] at *); (try simp (disch := omega) only [w64, w32, wu8] at *); first | done | omega))) [0, 1, 2, 3, 4] rfl ⟨rfl, rfl, rfl, rfl, rfl, trivial⟩ rfl ?_
      rintro _ _ ⟨rfl, rfl⟩
      refine ⟨hpSw frm by' (gd i (Yf i)), [], rfl, Nat.le_refl _, ⟨trivial, trivial, trivial, trivial, trivial, trivial⟩, rfl, ?_⟩
      (cbv; try simp only [wp, (show ∀ n : Nat, _ = n from fun n => wf.2.2.2.2.2.2.2.2.2.2.2.2.2.1 (Int.ofNat n)), (show _ = (0 : Nat) from wf.2.2.2.2.2.2.2.2.2.2.2.2.2.1 0), wpa, (show ∀ n : Nat, _ = n from fun n => wfa.2.2.2.2.2.2.2.2.2.2.2.2.2.1 (Int.ofNat n)), (show _ = (0 : Nat) from wfa.2.2.2.2.2.2.2.2.2.2.2.2.2.1 0), getL, takeL, dropL, TK.isAgg, reduceIte])
      repeat' first | (with_reducible refine And.intro ?_ ?_) | intro c9 | trivial | (refine Later.mk ?_; cbv; try simp only [wp, (show ∀ n : Nat, _ = n from fun n => wf.2.2.2.2.2.2.2.2.2.2.2.2.2.1 (Int.ofNat n)), (show _ = (0 : Nat) from wf.2.2.2.2.2.2.2.2.2.2.2.2.2.1 0), wpa, (show ∀ n : Nat, _ = n from fun n => wfa.2.2.2.2.2.2.2.2.2.2.2.2.2.1 (Int.ofNat n)), (show _ = (0 : Nat) from wfa.2.2.2.2.2.2.2.2.2.2.2.2.2.1 0), getL, takeL, dropL, TK.isAgg, reduceIte])
    all_goals first
      | exact Nat.zero_le _
      | exact (by (try simp only [wf, wfa, nc, nc', Int.toNat_natCast, bsz, ByteArray.size_append, List.length_cons, List.length_nil] at *); (try simp (disch := omega) only [w64, w32, wu8] at *); first | done | omega)
      | (refine hBk (i + 1) _ (by omega) (by omega) ?_
         (cbv; try simp only [wf, wfa, exD, exL, exT, exB, exA, leLs, leL_d, leL_undef, leL_nils, leA_nils, deq_refl, deq_int, deq_bool, deq_str, and_true, true_and, AObj.iter.injEq, nc, nc']; try simp (disch := omega) only [w64, w32, wu8])
         rw [Y1]
         ((try simp only [wf, wfa, nc, nc', Int.toNat_natCast, bsz, ByteArray.size_append, List.length_cons, List.length_nil] at *); (try simp (disch := omega) only [w64, w32, wu8] at *))
         exact ⟨by omega, trivial, rfl, rfl, Nat.le_refl _, Nat.zero_le _, fun x j hx hj => .of_eq (app_row2 (g' := G') (fun _ _ _ _ => rfl) (fun j hj => by
           match j, hj with
           | 0, _ | 1, _ | 2, _ | 3, _ | 4, _ => rfl) x j hx hj)⟩)
  · obtain rfl : i = m := (by (try simp only [wf, wfa, nc, nc', Int.toNat_natCast, bsz, ByteArray.size_append, List.length_cons, List.length_nil] at *); (try simp (disch := omega) only [w64, w32, wu8] at *); first | done | omega)
    (refine Later.mk ?_; cbv; try simp only [wp, (show ∀ n : Nat, _ = n from fun n => wf.2.2.2.2.2.2.2.2.2.2.2.2.2.1 (Int.ofNat n)), (show _ = (0 : Nat) from wf.2.2.2.2.2.2.2.2.2.2.2.2.2.1 0), wpa, (show ∀ n : Nat, _ = n from fun n => wfa.2.2.2.2.2.2.2.2.2.2.2.2.2.1 (Int.ofNat n)), (show _ = (0 : Nat) from wfa.2.2.2.2.2.2.2.2.2.2.2.2.2.1 0), getL, takeL, dropL, TK.isAgg, reduceIte])
    have hv := variableT op n s k C N W Q i G'
    (refine CallW.frz @fun ⟨_, _, _, _, _, _, _, _, _, _, _, _, _, _, _, _, _, _, _, _, _, _, _, _, _, _, _, _, _, _, _, _, _, _, _, _, _, _, wpz, wfz⟩ => ?_; cbv; try simp only [wpz, wp, (show ∀ n : Nat, _ = n from fun n => wfz.2.2.2.2.2.2.2.2.2.2.2.2.2.1 (Int.ofNat n)), getL, takeL, dropL, TK.isAgg, reduceIte])
    repeat' first | (with_reducible refine And.intro ?_ ?_) | intro c9 | trivial | (refine Later.mk ?_; cbv; try simp only [wp, (show ∀ n : Nat, _ = n from fun n => wf.2.2.2.2.2.2.2.2.2.2.2.2.2.1 (Int.ofNat n)), (show _ = (0 : Nat) from wf.2.2.2.2.2.2.2.2.2.2.2.2.2.1 0), wpa, (show ∀ n : Nat, _ = n from fun n => wfa.2.2.2.2.2.2.2.2.2.2.2.2.2.1 (Int.ofNat n)), (show _ = (0 : Nat) from wfa.2.2.2.2.2.2.2.2.2.2.2.2.2.1 0), getL, takeL, dropL, TK.isAgg, reduceIte])
    refine hv.call ?_
    rintro _ ⟨b, hb, rfl⟩
    rcases hb.dich with ⟨rfl, v⟩ | ⟨rfl, v⟩ <;> clear hb
    · rw [if_pos v] at hR
      (cbv; try simp only [wp, (show ∀ n : Nat, _ = n from fun n => wf.2.2.2.2.2.2.2.2.2.2.2.2.2.1 (Int.ofNat n)), (show _ = (0 : Nat) from wf.2.2.2.2.2.2.2.2.2.2.2.2.2.1 0), wpa, (show ∀ n : Nat, _ = n from fun n => wfa.2.2.2.2.2.2.2.2.2.2.2.2.2.1 (Int.ofNat n)), (show _ = (0 : Nat) from wfa.2.2.2.2.2.2.2.2.2.2.2.2.2.1 0), wpz, (show ∀ n : Nat, _ = n from fun n => wfz.2.2.2.2.2.2.2.2.2.2.2.2.2.1 (Int.ofNat n)), (show _ = (0 : Nat) from wfz.2.2.2.2.2.2.2.2.2.2.2.2.2.1 0), getL, takeL, dropL, TK.isAgg, reduceIte])
      repeat' first | (with_reducible refine And.intro ?_ ?_) | intro c9 | trivial | (refine Later.mk ?_; cbv; try simp only [wp, (show ∀ n : Nat, _ = n from fun n => wf.2.2.2.2.2.2.2.2.2.2.2.2.2.1 (Int.ofNat n)), (show _ = (0 : Nat) from wf.2.2.2.2.2.2.2.2.2.2.2.2.2.1 0), wpa, (show ∀ n : Nat, _ = n from fun n => wfa.2.2.2.2.2.2.2.2.2.2.2.2.2.1 (Int.ofNat n)), (show _ = (0 : Nat) from wfa.2.2.2.2.2.2.2.2.2.2.2.2.2.1 0), wpz, (show ∀ n : Nat, _ = n from fun n => wfz.2.2.2.2.2.2.2.2.2.2.2.2.2.1 (Int.ofNat n)), (show _ = (0 : Nat) from wfz.2.2.2.2.2.2.2.2.2.2.2.2.2.1 0), getL, takeL, dropL, TK.isAgg, reduceIte])
      (refine CallW.frz @fun ⟨_, _, _, _, _, _, _, _, _, _, _, _, _, _, _, _, _, _, _, _, _, _, _, _, _, _, _, _, _, _, _, _, _, _, _, _, _, _, wpz, wfz⟩ => ?_; cbv; try simp only [wpz, wp, (show ∀ n : Nat, _ = n from fun n => wfz.2.2.2.2.2.2.2.2.2.2.2.2.2.1 (Int.ofNat n)), getL, takeL, dropL, TK.isAgg, reduceIte])
      repeat' first | (with_reducible refine And.intro ?_ ?_) | intro c9 | trivial | (refine Later.mk ?_; cbv; try simp only [wp, (show ∀ n : Nat, _ = n from fun n => wf.2.2.2.2.2.2.2.2.2.2.2.2.2.1 (Int.ofNat n)), (show _ = (0 : Nat) from wf.2.2.2.2.2.2.2.2.2.2.2.2.2.1 0), wpa, (show ∀ n : Nat, _ = n from fun n => wfa.2.2.2.2.2.2.2.2.2.2.2.2.2.1 (Int.ofNat n)), (show _ = (0 : Nat) from wfa.2.2.2.2.2.2.2.2.2.2.2.2.2.1 0), wpz, (show ∀ n : Nat, _ = n from fun n => wfz.2.2.2.2.2.2.2.2.2.2.2.2.2.1 (Int.ofNat n)), (show _ = (0 : Nat) from wfz.2.2.2.2.2.2.2.2.2.2.2.2.2.1 0), getL, takeL, dropL, TK.isAgg, reduceIte])
      refine CallW.within (shift1 frm by' d (Yf i) op n s k C N W Q i G' v ⟨hd, by omega⟩ h3 h4) [0, 1, 2] rfl ⟨rfl, rfl, rfl, trivial⟩ rfl ?_
      rintro _ _ ⟨K2, rfl, rfl⟩
      refine ⟨hpSh frm by' (stSh by' frm n d (Yf i)), K2, rfl, Nat.le_refl _, ⟨trivial, trivial, trivial, trivial⟩, rfl, ?_⟩
      obtain ⟨st, hst⟩ : ∃ st, st = stSh by' frm n d (Yf i) := ⟨_, rfl⟩
      obtain ⟨sn, hsn⟩ : ∃ sn, sn = shN by' frm op n d := ⟨_, rfl⟩
      rw [← hst, ← hsn] at hR ⊢
      (cbv; try simp only [wp, (show ∀ n : Nat, _ = n from fun n => wf.2.2.2.2.2.2.2.2.2.2.2.2.2.1 (Int.ofNat n)), (show _ = (0 : Nat) from wf.2.2.2.2.2.2.2.2.2.2.2.2.2.1 0), wpa, (show ∀ n : Nat, _ = n from fun n => wfa.2.2.2.2.2.2.2.2.2.2.2.2.2.1 (Int.ofNat n)), (show _ = (0 : Nat) from wfa.2.2.2.2.2.2.2.2.2.2.2.2.2.1 0), wpz, (show ∀ n : Nat, _ = n from fun n => wfz.2.2.2.2.2.2.2.2.2.2.2.2.2.1 (Int.ofNat n)), (show _ = (0 : Nat) from wfz.2.2.2.2.2.2.2.2.2.2.2.2.2.1 0), getL, takeL, dropL, TK.isAgg, reduceIte])
      repeat' first | (with_reducible refine And.intro ?_ ?_) | intro c9 | trivial | (refine Later.mk ?_; cbv; try simp only [wp, (show ∀ n : Nat, _ = n from fun n => wf.2.2.2.2.2.2.2.2.2.2.2.2.2.1 (Int.ofNat n)), (show _ = (0 : Nat) from wf.2.2.2.2.2.2.2.2.2.2.2.2.2.1 0), wpa, (show ∀ n : Nat, _ = n from fun n => wfa.2.2.2.2.2.2.2.2.2.2.2.2.2.1 (Int.ofNat n)), (show _ = (0 : Nat) from wfa.2.2.2.2.2.2.2.2.2.2.2.2.2.1 0), wpz, (show ∀ n : Nat, _ = n from fun n => wfz.2.2.2.2.2.2.2.2.2.2.2.2.2.1 (Int.ofNat n)), (show _ = (0 : Nat) from wfz.2.2.2.2.2.2.2.2.2.2.2.2.2.1 0), getL, takeL, dropL, TK.isAgg, reduceIte])
      exact hR _ _ ⟨_, rfl, .keep _ (belA_ok rfl)⟩
    · rw [if_neg v] at hR
      have e3 : shN by' frm op n d = n := by unfold shN; rw [if_neg fun h => v h.1]
      rw [e3] at hR
      (cbv; try simp only [wp, (show ∀ n : Nat, _ = n from fun n => wf.2.2.2.2.2.2.2.2.2.2.2.2.2.1 (Int.ofNat n)), (show _ = (0 : Nat) from wf.2.2.2.2.2.2.2.2.2.2.2.2.2.1 0), wpa, (show ∀ n : Nat, _ = n from fun n => wfa.2.2.2.2.2.2.2.2.2.2.2.2.2.1 (Int.ofNat n)), (show _ = (0 : Nat) from wfa.2.2.2.2.2.2.2.2.2.2.2.2.2.1 0), wpz, (show ∀ n : Nat, _ = n from fun n => wfz.2.2.2.2.2.2.2.2.2.2.2.2.2.1 (Int.ofNat n)), (show _ = (0 : Nat) from wfz.2.2.2.2.2.2.2.2.2.2.2.2.2.1 0), getL, takeL, dropL, TK.isAgg, reduceIte])
      repeat' first | (with_reducible refine And.intro ?_ ?_) | intro c9 | trivial | (refine Later.mk ?_; cbv; try simp only [wp, (show ∀ n : Nat, _ = n from fun n => wf.2.2.2.2.2.2.2.2.2.2.2.2.2.1 (Int.ofNat n)), (show _ = (0 : Nat) from wf.2.2.2.2.2.2.2.2.2.2.2.2.2.1 0), wpa, (show ∀ n : Nat, _ = n from fun n => wfa.2.2.2.2.2.2.2.2.2.2.2.2.2.1 (Int.ofNat n)), (show _ = (0 : Nat) from wfa.2.2.2.2.2.2.2.2.2.2.2.2.2.1 0), wpz, (show ∀ n : Nat, _ = n from fun n => wfz.2.2.2.2.2.2.2.2.2.2.2.2.2.1 (Int.ofNat n)), (show _ = (0 : Nat) from wfz.2.2.2.2.2.2.2.2.2.2.2.2.2.1 0), getL, takeL, dropL, TK.isAgg, reduceIte])
      exact hR _ _ ⟨_, rfl, .aggs5 (.keep _ (.d _)) (.keep _ (.d _)) (.keep _ (.d _)) (.keep _ (.d _)) (.ref0 7 i 5 i i _ (by decide) rfl rfl)⟩
abbrev cloSh : A := .clo 44 [] [.ptr 0 0, .ptr 1 0, .ptr 2 0]
theorem mappedSh (frm by' : Int) (h3 : 0 ≤ frm ∧ frm ≤ 2147483648) (h4 : -2147483648 ≤ by' ∧ by' ≤ 2147483648) (t : Tm) (y : Bool) (hs : 4 * nodesT t ≤ 4194304) :
    VCalls (P ()) 40 [tm t, .clo 44 [] [.ptr 0 0, .ptr 1 0, .ptr 2 0]] (hpSh frm by' y) (fun r H => ∃ K2, r = tm (mapT (fSh by' frm) t 0) ∧ H = hpSh frm by' (runT (stSh by' frm) t 0 y) ++ K2) := by
  have hw := walkSh frm by' h3 h4 t 0 y (by decide) (by omega)
  unfold tm at hw ⊢
  obtain ⟨f, hf⟩ : ∃ f, f = tmD t := ⟨_, rfl⟩
  obtain ⟨g, hg⟩ : ∃ g, g = tmD (mapT (fSh by' frm) t 0) := ⟨_, rfl⟩
  obtain ⟨st, hst⟩ : ∃ st, st = runT (stSh by' frm) t 0 y := ⟨_, rfl⟩
  rw [← hf, ← hg, ← hst] at hw ⊢
  clear hf hg hst
  refine VCalls_of_Wl (Tf := fun {_} _ => fzT [2] (T ())) (fun {_} => tabOk.frz [2]) [] 400 Tryz.func40 rfl (fun {_} => by kernel_rfl) (Nat.le_of_ble_eq_true rfl) @fun ⟨_, _, _, _, _, _, _, _, _, _, _, _, _, _, _, _, _, _, _, _, _, _, _, _, _, _, _, _, _, _, _, _, _, _, _, _, _, _, wp, wf⟩ nH R hnH hR => ?_
  subst hnH
  cbv
  try simp only [wp, (show ∀ n : Nat, _ = n from fun n => wf.2.2.2.2.2.2.2.2.2.2.2.2.2.1 (Int.ofNat n)), getL, takeL, dropL, TK.isAgg, reduceIte]
  repeat' first | (with_reducible refine And.intro ?_ ?_) | intro c9 | trivial | (refine Later.mk ?_; cbv; try simp only [wp, (show ∀ n : Nat, _ = n from fun n => wf.2.2.2.2.2.2.2.2.2.2.2.2.2.1 (Int.ofNat n)), (show _ = (0 : Nat) from wf.2.2.2.2.2.2.2.2.2.2.2.2.2.1 0), getL, takeL, dropL, TK.isAgg, reduceIte])
  refine CallW.within hw [0, 1, 2, 5, 3] rfl ⟨rfl, rfl, rfl, rfl, rfl, trivial⟩ rfl ?_
  rintro _ _ ⟨rfl, rfl⟩
  refine ⟨hpSw frm by' st, [], rfl, Nat.le_refl _, ⟨trivial, trivial, trivial, trivial, trivial, trivial⟩, rfl, ?_⟩
  (cbv; try simp only [wp, (show ∀ n : Nat, _ = n from fun n => wf.2.2.2.2.2.2.2.2.2.2.2.2.2.1 (Int.ofNat n)), (show _ = (0 : Nat) from wf.2.2.2.2.2.2.2.2.2.2.2.2.2.1 0), getL, takeL, dropL, TK.isAgg, reduceIte])
  repeat' first | (with_reducible refine And.intro ?_ ?_) | intro c9 | trivial | (refine Later.mk ?_; cbv; try simp only [wp, (show ∀ n : Nat, _ = n from fun n => wf.2.2.2.2.2.2.2.2.2.2.2.2.2.1 (Int.ofNat n)), (show _ = (0 : Nat) from wf.2.2.2.2.2.2.2.2.2.2.2.2.2.1 0), getL, takeL, dropL, TK.isAgg, reduceIte])
  exact hR _ _ ⟨_, rfl, rfl⟩
theorem ShiftT (frm by' : Int) (t : Tm) (hs : 4 * nodesT t ≤ 4194304) : VFun (P ()) 19 [tm t, .d (.int .i64 by'), .d (.int .i64 frm)] (fun r => ∃ x : Tm, ∃ b : Bool, (b = true ↔ (0 ≤ frm ∧ frm ≤ 2147483648 ∧ -2147483648 ≤ by' ∧ by' ≤ 2147483648) ∧ OkT by' frm t 0) ∧ (b = true → x = mapT (fSh by' frm) t 0) ∧ (b = false → x = Tm.leaf) ∧ r = .tup [tm x, .d (.bool b)]) := by
  have hw := fun h3 h4 y => mappedSh frm by' h3 h4 t y hs
  have hx := runT_sh by' frm t 0 true
  obtain ⟨g3, g4, el⟩ := tm_leaf
  refine VFun.mono (S := fun r => ∃ b : Bool, (b = true ↔ (0 ≤ frm ∧ frm ≤ 2147483648 ∧ -2147483648 ≤ by' ∧ by' ≤ 2147483648) ∧ OkT by' frm t 0) ∧ r = .tup [if b then tm (mapT (fSh by' frm) t 0) else tm Tm.leaf, .d (.bool b)]) ?_ fun r h => by
    obtain ⟨b, h1, rfl⟩ := h
    cases b
    · exact ⟨_, false, h1, fun h => (by cases h), fun _ => rfl, rfl⟩
    · exact ⟨_, true, h1, fun _ => rfl, fun h => (by cases h), rfl⟩
  rw [el]
  unfold tm at hw ⊢
  obtain ⟨f, hf⟩ : ∃ f, f = tmD t := ⟨_, rfl⟩
  obtain ⟨g, hg⟩ : ∃ g, g = tmD (mapT (fSh by' frm) t 0) := ⟨_, rfl⟩
  obtain ⟨st, hst⟩ : ∃ st, st = fun y => runT (stSh by' frm) t 0 y := ⟨_, rfl⟩
  have hx : st true = true ↔ OkT by' frm t 0 := by rw [hst]; exact hx.trans ⟨fun h => h.2, fun h => ⟨rfl, h⟩⟩
  replace hw : ∀ h3 h4 y, VCalls _ _ _ _ (fun r H => ∃ K2, _ ∧ H = hpSh frm by' (st y) ++ K2) := fun h3 h4 y => by
    rw [hst]; exact hw h3 h4 y
  rw [← hf, ← hg] at hw
  rw [← hf, ← hg]
  clear hf hg hst el
  refine vfunL (Tf := fun {_} _ => fzT [3] (T ())) (fun {_} => tabOk.frz [3]) [] 400 Tryz.func19 rfl (fun {_} => by kernel_rfl) rfl (Nat.le_of_ble_eq_true rfl) @fun ⟨_, _, _, _, _, _, _, _, _, _, _, _, _, _, _, _, _, _, _, _, _, _, _, _, _, _, _, _, _, _, _, _, _, _, _, _, _, _, wp, wf⟩ R hR => ?_
  cbv
  try simp only [wp, (show ∀ n : Nat, _ = n from fun n => wf.2.2.2.2.2.2.2.2.2.2.2.2.2.1 (Int.ofNat n)), getL, takeL, dropL, TK.isAgg, reduceIte]
  repeat' first | (with_reducible refine And.intro ?_ ?_) | intro c9 | trivial | (refine Later.mk ?_; cbv; try simp only [wp, (show ∀ n : Nat, _ = n from fun n => wf.2.2.2.2.2.2.2.2.2.2.2.2.2.1 (Int.ofNat n)), (show _ = (0 : Nat) from wf.2.2.2.2.2.2.2.2.2.2.2.2.2.1 0), getL, takeL, dropL, TK.isAgg, reduceIte])
  all_goals first
    | exact hR _ _ _ (.tup2 (.z5 g3 g4 _ _ _) (.d _)) ⟨false, iffF fun h => (by have h := h.1; exact absurd h (by (try simp only [wf, nc, nc', Int.toNat_natCast, bsz, ByteArray.size_append, List.length_cons, List.length_nil] at *); (try simp (disch := omega) only [w64, w32, wu8] at *); first | done | omega)), rfl⟩
    | skip
  refine CallW.within (hw (by (try simp only [wf, nc, nc', Int.toNat_natCast, bsz, ByteArray.size_append, List.length_cons, List.length_nil] at *); (try simp (disch := omega) only [w64, w32, wu8] at *); first | done | omega) (by (try simp only [wf, nc, nc', Int.toNat_natCast, bsz, ByteArray.size_append, List.length_cons, List.length_nil] at *); (try simp (disch := omega) only [w64, w32, wu8] at *); first | done | omega) true) [1, 0, 3] rfl ⟨rfl, rfl, rfl, trivial⟩ rfl ?_
  rintro _ _ ⟨K2, rfl, rfl⟩
  refine ⟨hpSh frm by' (st true), K2, rfl, Nat.le_refl _, ⟨trivial, trivial, trivial, trivial⟩, rfl, ?_⟩
  have hr : (0 ≤ frm ∧ frm ≤ 2147483648 ∧ -2147483648 ≤ by' ∧ by' ≤ 2147483648) := (by (try simp only [wf, nc, nc', Int.toNat_natCast, bsz, ByteArray.size_append, List.length_cons, List.length_nil] at *); (try simp (disch := omega) only [w64, w32, wu8] at *); first | done | omega)
  rcases hb : st true with _ | _
  · have hx : ¬ OkT by' frm t 0 := fun h => by rw [hx.2 h] at hb; cases hb
    (cbv; try simp only [wp, (show ∀ n : Nat, _ = n from fun n => wf.2.2.2.2.2.2.2.2.2.2.2.2.2.1 (Int.ofNat n)), (show _ = (0 : Nat) from wf.2.2.2.2.2.2.2.2.2.2.2.2.2.1 0), getL, takeL, dropL, TK.isAgg, reduceIte])
    repeat' first | (with_reducible refine And.intro ?_ ?_) | intro c9 | trivial | (refine Later.mk ?_; cbv; try simp only [wp, (show ∀ n : Nat, _ = n from fun n => wf.2.2.2.2.2.2.2.2.2.2.2.2.2.1 (Int.ofNat n)), (show _ = (0 : Nat) from wf.2.2.2.2.2.2.2.2.2.2.2.2.2.1 0), getL, takeL, dropL, TK.isAgg, reduceIte])
    exact hR _ _ _ (.tup2 (.z5 g3 g4 _ _ _) (.d _)) ⟨false, iffF fun h => hx h.2, rfl⟩
  · have hx : OkT by' frm t 0 := hx.1 hb
    (cbv; try simp only [wp, (show ∀ n : Nat, _ = n from fun n => wf.2.2.2.2.2.2.2.2.2.2.2.2.2.1 (Int.ofNat n)), (show _ = (0 : Nat) from wf.2.2.2.2.2.2.2.2.2.2.2.2.2.1 0), getL, takeL, dropL, TK.isAgg, reduceIte])
    repeat' first | (with_reducible refine And.intro ?_ ?_) | intro c9 | trivial | (refine Later.mk ?_; cbv; try simp only [wp, (show ∀ n : Nat, _ = n from fun n => wf.2.2.2.2.2.2.2.2.2.2.2.2.2.1 (Int.ofNat n)), (show _ = (0 : Nat) from wf.2.2.2.2.2.2.2.2.2.2.2.2.2.1 0), getL, takeL, dropL, TK.isAgg, reduceIte])
    exact hR _ _ _ (.tup2 (.same5 _ _ _ _ _) (.d _)) ⟨true, iffT ⟨hr, hx⟩, rfl⟩
end Go.VM
