/- Part of the proof: TT21. -/
import Derived.Test.YtfbecfnagidioaaGreatDoorGX18
namespace Go.VM
open Go.Proofs Go
set_option maxRecDepth 100000
set_option linter.unusedVariables false
set_option linter.unusedSimpArgs false
/-- the objects that a look for free variables works with -/
abbrev hpF1 (y : Int) : AHeap := [.box [.d (.int .i64 y)]]
theorem free1 (d : Int) (y : Int) (op n : Int) (s : ByteArray) (k : Nat) (C : Nat → Int) (N : Nat → Nat) (W Q : Nat → Nat → Int) (m : Nat) (G : Nat → Nat → D) (h1 : IsV op n) (h2 : 0 ≤ d ∧ d ≤ 8000000) (h3 : 0 ≤ y ∧ y ≤ 4000000000) :
    VCalls (P ()) 45 [tml op n s k C N W Q m G, .d (.int .i64 d), .ptr 0 0] (hpF1 y) (fun r H => ∃ K2, r = tml op n s k C N W Q m G ∧ H = hpF1 (stFr n d y) ++ K2) := by
  obtain ⟨v1, v2, v3⟩ := h1
  refine VCalls_of_Wl (Tf := fun {_} _ => fzT [3] (T ())) (fun {_} => tabOk.frz [3]) [] 400 Tryz.func45 rfl (fun {_} => by kernel_rfl) (Nat.le_of_ble_eq_true rfl) @fun ⟨_, _, _, _, _, _, _, _, _, _, _, _, _, _, _, _, _, _, _, _, _, _, _, _, _, _, _, _, _, _, _, _, _, _, _, _, _, _, wp, wf⟩ nH R hnH hR => ?_
  subst hnH
  cbv
  try simp only [wp, (show ∀ n : Nat, _ = n from fun n => wf.2.2.2.2.2.2.2.2.2.2.2.2.2.1 (Int.ofNat n)), getL, takeL, dropL, TK.isAgg, reduceIte]
  have hA : ∀ K2 x, stFr n d y = x → R (tml op n s k C N W Q m G) (hpF1 x ++ K2) := fun K2 x h => hR _ _ ⟨K2, rfl, by rw [h]⟩
  clear hR
  unfold stFr at hA
  repeat' first | (with_reducible refine And.intro ?_ ?_) | intro c9 | trivial | (refine Later.mk ?_; cbv; try simp only [wp, (show ∀ n : Nat, _ = n from fun n => wf.2.2.2.2.2.2.2.2.2.2.2.2.2.1 (Int.ofNat n)), (show _ = (0 : Nat) from wf.2.2.2.2.2.2.2.2.2.2.2.2.2.1 0), getL, takeL, dropL, TK.isAgg, reduceIte])
  trace_state
  all_goals exact hA _ _ (by clear hA; ((try simp only [wf, nc, nc', Int.toNat_natCast, bsz, ByteArray.size_append, List.length_cons, List.length_nil] at *); (try simp (disch := omega) only [w64, w32, wu8] at *)); first | omega | (split <;> omega))
theorem freeT_le (t : Tm) : ∀ d, 0 ≤ d → freeT t d ≤ 2147483649 := by
  refine Tm.walk (P := fun t => ∀ d, 0 ≤ d → freeT t d ≤ 2147483649) ?_ t
  intro op n s k C N W Q m ok K G _ _ ih d hd
  rw [freeT_nd]
  have h0 : (if IsV op n then max 0 (n - d + 1) else 0) ≤ 2147483649 := by
    split
    · rename_i v
      have := v.2.2
      omega
    · omega
  have : ∀ j, j ≤ m → foldF (fun i z => max z (freeT (K i) (d + bindI op m i))) j (if IsV op n then max 0 (n - d + 1) else 0) ≤ 2147483649 := by
    intro j
    induction j with
    | zero => intro _; exact h0
    | succ j ihj =>
      intro hj
      have h1 := ihj (by omega)
      have h2 := ih j (by omega) (d + bindI op m j) (by have := bindI_le op m j; omega)
      simp only [foldF]
      omega
  exact this m (Nat.le_refl _)

abbrev hpF (y : Int) : AHeap := [.box [.d (.int .i64 y)], .box [.clo 73 [] [.ptr 1 0, .ptr 2 0]], .box [.clo 45 [] [.ptr 0 0]]]
set_option maxHeartbeats 4000000 in
theorem walkF (t : Tm) : ∀ (d : Int) (y : Int), 0 ≤ d → d + 4 * nodesT t ≤ 4194304 → 0 ≤ y → y ≤ 4000000000 →
    VCalls (P ()) 73 [tm t, .d (.int .i64 d), .ptr 1 0, .ptr 2 0] (hpF y) (fun r H => r = tm t ∧ H = hpF (runT stFr t d y)) := by
  refine Tm.walk (P := fun t => ∀ (d : Int) (y : Int), 0 ≤ d → d + 4 * nodesT t ≤ 4194304 → 0 ≤ y → y ≤ 4000000000 →
    VCalls (P ()) 73 [tm t, .d (.int .i64 d), .ptr 1 0, .ptr 2 0] (hpF y) (fun r H => r = tm t ∧ H = hpF (runT stFr t d y))) ?_ t
  clear t
  intro op n s k C N W Q m ok K G hG e ih d y hd hs hy0 hy1
  rw [nodesT_nd] at hs
  have b1 := sumF_ge (f := fun i => 1 + N i) (fun i => by omega) k
  have b2 := sumF_ge (f := fun i => nodesT (K i)) (fun i => nodesT_pos _) m
  have b3 : ∀ i, i < k → N i ≤ 1048575 := fun i hi => by have := sumF_one (f := fun i => 1 + N i) hi; omega
  have b4 : ∀ i, i < m → d + 3 + 4 * nodesT (K i) ≤ 4194304 := fun i hi => by have := sumF_one (f := fun i => nodesT (K i)) hi; omega
  rw [e, runT_nd]
  obtain ⟨gd, hgd⟩ : ∃ gd : Nat → Int → Int, gd = fun i z => runT stFr (K i) (d + bindI op m i) z := ⟨_, rfl⟩
  have g1 : ∀ i z, i < m → 0 ≤ z → z ≤ 4000000000 → 0 ≤ gd i z ∧ gd i z ≤ 4000000000 := fun i z hi h1 h2 => by
    have hb := bindI_le op m i
    have := freeT_le (K i) (d + bindI op m i) (by omega)
    rw [hgd]
    dsimp only
    rw [runT_fr _ _ _ h1]
    omega
  have ih' : ∀ i, i < m → ∀ (d' : Int) (z : Int), d' = d + bindI op m i → 0 ≤ z → z ≤ 4000000000 → VCalls (P ()) 73 [kid G i, .d (.int .i64 d'), .ptr 1 0, .ptr 2 0] (hpF z) (fun r H => r = kid G i ∧ H = hpF (gd i z)) := fun i hi d' z hd' z0 z1 => by
    have hb := bindI_le op m i
    have := ih i hi d' z (by omega) (by have := b4 i hi; omega) z0 z1
    rw [hG i hi] at this
    rw [hgd]
    rw [hd'] at this
    rw [hd']
    exact this
  rw [← hgd]
  have b6 : d ≤ 4194304 := by omega
  have b5 : k ≤ 4194304 ∧ m ≤ 4194304 := ⟨by omega, by omega⟩
  clear ih e hG hgd b4 b2 b1 hs
  have hc := copied k C N W Q (by omega) (fun i hi => by have := b3 i hi; omega)
  have hbd := fun i => bindsT op n s k C N W Q m G i (by omega)
  refine VCalls.ice (R1 := fun r H => ∃ K2, H = hpF (if IsV op n then stFr n d (foldF gd m y) else foldF gd m y) ++ K2 ∧ FrzM 3 (fun i => i) H r (tml op n s k C N W Q m G)) ?_ rfl rfl rfl rfl fun r H' h => by
    obtain ⟨K2, e, f⟩ := h
    exact ⟨_, _, K2, e, rfl, f, ⟨trivial, trivial, trivial, trivial⟩, rfl, rfl, rfl, rfl⟩
  refine VCalls_of_Wl (Tf := fun {_} _ => fzT [] (T ())) (fun {_} => tabOk.frz []) [] 400 Tryz.func73 rfl (fun {_} => by kernel_rfl) (Nat.le_of_ble_eq_true rfl) @fun ⟨_, _, _, _, _, _, _, _, _, _, _, _, _, _, _, _, _, _, _, _, _, _, _, _, _, _, _, _, _, _, _, _, _, _, _, _, _, _, wp, wf⟩ nH R hnH hR => ?_
  subst hnH
  cbv
  try simp only [wp, (show ∀ n : Nat, _ = n from fun n => wf.2.2.2.2.2.2.2.2.2.2.2.2.2.1 (Int.ofNat n)), getL, takeL, dropL, TK.isAgg, reduceIte]
  refine hc.call ?_
  rintro _ rfl
  (cbv; try simp only [wp, (show ∀ n : Nat, _ = n from fun n => wf.2.2.2.2.2.2.2.2.2.2.2.2.2.1 (Int.ofNat n)), (show _ = (0 : Nat) from wf.2.2.2.2.2.2.2.2.2.2.2.2.2.1 0), getL, takeL, dropL, TK.isAgg, reduceIte])
  repeat' first | (with_reducible refine And.intro ?_ ?_) | intro c9 | trivial | (refine Later.mk ?_; cbv; try simp only [wp, (show ∀ n : Nat, _ = n from fun n => wf.2.2.2.2.2.2.2.2.2.2.2.2.2.1 (Int.ofNat n)), (show _ = (0 : Nat) from wf.2.2.2.2.2.2.2.2.2.2.2.2.2.1 0), getL, takeL, dropL, TK.isAgg, reduceIte])
  obtain ⟨Yf, hY⟩ : ∃ Yf : Nat → Int, Yf = fun i => foldF gd i y := ⟨_, rfl⟩
  have Y0 : Yf 0 = y := by rw [hY]; rfl
  have Y1 : ∀ i, Yf (i + 1) = gd i (Yf i) := fun i => by rw [hY]; rfl
  have Ym : foldF gd m y = Yf m := by rw [hY]
  have Yb : ∀ i, i ≤ m → 0 ≤ Yf i ∧ Yf i ≤ 4000000000 := fun i => by
    induction i with
    | zero => intro _; rw [Y0]; exact ⟨hy0, hy1⟩
    | succ i hi => intro h; rw [Y1]; have := hi (by omega); exact g1 i _ (by omega) this.1 this.2
  rw [Ym] at hR
  rw [← Y0]
  clear hY Ym Y0
  refine loopGhost 7 5 rfl ?_
  refine loopL (Tf := fun {_} _ => fzT [] (T ())) (fun {_} => tabOk.frz []) [] 400 (fun i : Nat => ⟨[.undef, .d (.int .i64 d), .ptr 1 0, .ptr 2 0, .ptr 3 0, .undef, .ptr 4 0, .ref 5 0 i 5, .undef, .undef, .undef, .undef, .undef, .undef, .undef, .d (.sl m 5 G), .d (.int .i64 m), .d (.int .i64 i), .undef, .undef, .undef, .undef, .undef, .undef, .undef, .undef, .undef, .undef, .undef, .undef, .undef, .undef, .undef, .undef, .undef, .undef, .undef, .undef, .undef, .undef, .undef, .undef, .undef],
    [.box [.d (.int .i64 (Yf i))], .box [.clo 73 [] [.ptr 1 0, .ptr 2 0]], .box [.clo 45 [] [.ptr 0 0]], .box [.d (.int .i64 op), .d (.int .i64 n), .d (.str s), .d (.sl k 2 (lsF C N W Q)), .d (.sl m 5 G)], .box [.undef, .undef, .undef, .undef, .undef], .arr i 5 G 0]⟩) (fun i => m - i) (fun i => i ≤ m) 0 (Nat.zero_le _) (fun {_} => by kernel_rfl) ?_ (fun i => by kernel_rfl) @fun ⟨_, _, _, _, _, _, _, _, _, _, _, _, _, _, _, _, _, _, _, _, _, _, _, _, _, _, _, _, _, _, _, _, _, _, _, _, _, _, wpa, wfa⟩ i Bk hi hBk => ?_
  · (cbv; try simp only [wf, exD, exL, exT, exB, exA, leLs, leL_d, leL_undef, leL_nils, leA_nils, deq_refl, deq_int, deq_bool, deq_str, and_true, true_and, AObj.iter.injEq, nc, nc']; try simp (disch := omega) only [w64, w32, wu8])
    exact ⟨rfl, rfl, rfl, Nat.le_refl _, Nat.le_refl _, fun i j hi => absurd hi (Nat.not_lt_zero _)⟩
  (cbv; try simp only [wp, (show ∀ n : Nat, _ = n from fun n => wf.2.2.2.2.2.2.2.2.2.2.2.2.2.1 (Int.ofNat n)), (show _ = (0 : Nat) from wf.2.2.2.2.2.2.2.2.2.2.2.2.2.1 0), wpa, (show ∀ n : Nat, _ = n from fun n => wfa.2.2.2.2.2.2.2.2.2.2.2.2.2.1 (Int.ofNat n)), (show _ = (0 : Nat) from wfa.2.2.2.2.2.2.2.2.2.2.2.2.2.1 0), getL, takeL, dropL, TK.isAgg, reduceIte])
  refine ⟨fun e => ?_, fun e => ?_⟩
  · have e : i < m := (by (try simp only [wf, wfa, nc, nc', Int.toNat_natCast, bsz, ByteArray.size_append, List.length_cons, List.length_nil] at *); (try simp (disch := omega) only [w64, w32, wu8] at *); first | done | omega)
    (refine Later.mk ?_; cbv; try simp only [wp, (show ∀ n : Nat, _ = n from fun n => wf.2.2.2.2.2.2.2.2.2.2.2.2.2.1 (Int.ofNat n)), (show _ = (0 : Nat) from wf.2.2.2.2.2.2.2.2.2.2.2.2.2.1 0), wpa, (show ∀ n : Nat, _ = n from fun n => wfa.2.2.2.2.2.2.2.2.2.2.2.2.2.1 (Int.ofNat n)), (show _ = (0 : Nat) from wfa.2.2.2.2.2.2.2.2.2.2.2.2.2.1 0), getL, takeL, dropL, TK.isAgg, reduceIte])
    repeat' first | (with_reducible refine And.intro ?_ ?_) | intro c9 | trivial | (refine Later.mk ?_; cbv; try simp only [wp, (show ∀ n : Nat, _ = n from fun n => wf.2.2.2.2.2.2.2.2.2.2.2.2.2.1 (Int.ofNat n)), (show _ = (0 : Nat) from wf.2.2.2.2.2.2.2.2.2.2.2.2.2.1 0), wpa, (show ∀ n : Nat, _ = n from fun n => wfa.2.2.2.2.2.2.2.2.2.2.2.2.2.1 (Int.ofNat n)), (show _ = (0 : Nat) from wfa.2.2.2.2.2.2.2.2.2.2.2.2.2.1 0), getL, takeL, dropL, TK.isAgg, reduceIte])
    all_goals first | exact (by (try simp only [wf, wfa, nc, nc', Int.toNat_natCast, bsz, ByteArray.size_append, List.length_cons, List.length_nil] at *); (try simp (disch := omega) only [w64, w32, wu8] at *); first | done | omega) | skip
    all_goals
      refine (hbd i).call ?_
      rintro _ rfl
      obtain ⟨bi, hbi⟩ : ∃ bi, bi = bindI op m i := ⟨_, rfl⟩
      have hbl := bindI_le op m i
      rw [← hbi] at hbl ⊢
      (cbv; try simp only [wp, (show ∀ n : Nat, _ = n from fun n => wf.2.2.2.2.2.2.2.2.2.2.2.2.2.1 (Int.ofNat n)), (show _ = (0 : Nat) from wf.2.2.2.2.2.2.2.2.2.2.2.2.2.1 0), wpa, (show ∀ n : Nat, _ = n from fun n => wfa.2.2.2.2.2.2.2.2.2.2.2.2.2.1 (Int.ofNat n)), (show _ = (0 : Nat) from wfa.2.2.2.2.2.2.2.2.2.2.2.2.2.1 0), getL, takeL, dropL, TK.isAgg, reduceIte])
      repeat' first | (with_reducible refine And.intro ?_ ?_) | intro c9 | trivial | (refine Later.mk ?_; cbv; try simp only [wp, (show ∀ n : Nat, _ = n from fun n => wf.2.2.2.2.2.2.2.2.2.2.2.2.2.1 (Int.ofNat n)), (show _ = (0 : Nat) from wf.2.2.2.2.2.2.2.2.2.2.2.2.2.1 0), wpa, (show ∀ n : Nat, _ = n from fun n => wfa.2.2.2.2.2.2.2.2.2.2.2.2.2.1 (Int.ofNat n)), (show _ = (0 : Nat) from wfa.2.2.2.2.2.2.2.2.2.2.2.2.2.1 0), getL, takeL, dropL, TK.isAgg, reduceIte])
    all_goals
      refine CallW.within (ih' i e _ (Yf i) (by rw [← hbi]; exact (by (try simp only [wf, wfa, nc, nc', Int.toNat_natCast, bsz, ByteArray.size_append, List.length_cons, List.length_nil] at *); (try simp (disch := omega) only [w64, w32, wu8] at *); first | done | omega)) (Yb i hi).1 (Yb i hi).2) [0, 1, 2] rfl ⟨rfl, rfl, rfl, trivial⟩ rfl ?_
      rintro _ _ ⟨rfl, rfl⟩
      refine ⟨hpF (gd i (Yf i)), [], rfl, Nat.le_refl _, ⟨trivial, trivial, trivial, trivial⟩, rfl, ?_⟩
      (cbv; try simp only [wp, (show ∀ n : Nat, _ = n from fun n => wf.2.2.2.2.2.2.2.2.2.2.2.2.2.1 (Int.ofNat n)), (show _ = (0 : Nat) from wf.2.2.2.2.2.2.2.2.2.2.2.2.2.1 0), wpa, (show ∀ n : Nat, _ = n from fun n => wfa.2.2.2.2.2.2.2.2.2.2.2.2.2.1 (Int.ofNat n)), (show _ = (0 : Nat) from wfa.2.2.2.2.2.2.2.2.2.2.2.2.2.1 0), getL, takeL, dropL, TK.isAgg, reduceIte])
      repeat' first | (with_reducible refine And.intro ?_ ?_) | intro c9 | trivial | (refine Later.mk ?_; cbv; try simp only [wp, (show ∀ n : Nat, _ = n from fun n => wf.2.2.2.2.2.2.2.2.2.2.2.2.2.1 (Int.ofNat n)), (show _ = (0 : Nat) from wf.2.2.2.2.2.2.2.2.2.2.2.2.2.1 0), wpa, (show ∀ n : Nat, _ = n from fun n => wfa.2.2.2.2.2.2.2.2.2.2.2.2.2.1 (Int.ofNat n)), (show _ = (0 : Nat) from wfa.2.2.2.2.2.2.2.2.2.2.2.2.2.1 0), getL, takeL, dropL, TK.isAgg, reduceIte])
    all_goals first
      | exact Nat.zero_le _
      | exact (by (try simp only [wf, wfa, nc, nc', Int.toNat_natCast, bsz, ByteArray.size_append, List.length_cons, List.length_nil] at *); (try simp (disch := omega) only [w64, w32, wu8] at *); first | done | omega)
      | (refine hBk (i + 1) _ (by omega) (by omega) ?_
         (cbv; try simp only [wf, wfa, exD, exL, exT, exB, exA, leLs, leL_d, leL_undef, leL_nils, leA_nils, deq_refl, deq_int, deq_bool, deq_str, and_true, true_and, AObj.iter.injEq, nc, nc']; try simp (disch := omega) only [w64, w32, wu8])
         rw [Y1]
         ((try simp only [wf, wfa, nc, nc', Int.toNat_natCast, bsz, ByteArray.size_append, List.length_cons, List.length_nil] at *); (try simp (disch := omega) only [w64, w32, wu8] at *))
         exact ⟨by omega, trivial, rfl, rfl, Nat.le_refl _, Nat.zero_le _, fun x j hx hj => .of_eq (app_row2 (g' := G) (fun _ _ _ _ => rfl) (fun j hj => by
           match j, hj with
           | 0, _ | 1, _ | 2, _ | 3, _ | 4, _ => rfl) x j hx hj)⟩)
  · obtain rfl : i = m := (by (try simp only [wf, wfa, nc, nc', Int.toNat_natCast, bsz, ByteArray.size_append, List.length_cons, List.length_nil] at *); (try simp (disch := omega) only [w64, w32, wu8] at *); first | done | omega)
    (refine Later.mk ?_; cbv; try simp only [wp, (show ∀ n : Nat, _ = n from fun n => wf.2.2.2.2.2.2.2.2.2.2.2.2.2.1 (Int.ofNat n)), (show _ = (0 : Nat) from wf.2.2.2.2.2.2.2.2.2.2.2.2.2.1 0), wpa, (show ∀ n : Nat, _ = n from fun n => wfa.2.2.2.2.2.2.2.2.2.2.2.2.2.1 (Int.ofNat n)), (show _ = (0 : Nat) from wfa.2.2.2.2.2.2.2.2.2.2.2.2.2.1 0), getL, takeL, dropL, TK.isAgg, reduceIte])
    have hv := variableT op n s k C N W Q i G
    (refine CallW.frz @fun ⟨_, _, _, _, _, _, _, _, _, _, _, _, _, _, _, _, _, _, _, _, _, _, _, _, _, _, _, _, _, _, _, _, _, _, _, _, _, _, wpz, wfz⟩ => ?_; cbv; try simp only [wpz, wp, (show ∀ n : Nat, _ = n from fun n => wfz.2.2.2.2.2.2.2.2.2.2.2.2.2.1 (Int.ofNat n)), getL, takeL, dropL, TK.isAgg, reduceIte])
    repeat' first | (with_reducible refine And.intro ?_ ?_) | intro c9 | trivial | (refine Later.mk ?_; cbv; try simp only [wp, (show ∀ n : Nat, _ = n from fun n => wf.2.2.2.2.2.2.2.2.2.2.2.2.2.1 (Int.ofNat n)), (show _ = (0 : Nat) from wf.2.2.2.2.2.2.2.2.2.2.2.2.2.1 0), wpa, (show ∀ n : Nat, _ = n from fun n => wfa.2.2.2.2.2.2.2.2.2.2.2.2.2.1 (Int.ofNat n)), (show _ = (0 : Nat) from wfa.2.2.2.2.2.2.2.2.2.2.2.2.2.1 0), getL, takeL, dropL, TK.isAgg, reduceIte])
    refine hv.call ?_
    rintro _ ⟨b, hb, rfl⟩
    rcases hb.dich with ⟨rfl, v⟩ | ⟨rfl, v⟩ <;> clear hb
    · rw [if_pos v] at hR
      (cbv; try simp only [wp, (show ∀ n : Nat, _ = n from fun n => wf.2.2.2.2.2.2.2.2.2.2.2.2.2.1 (Int.ofNat n)), (show _ = (0 : Nat) from wf.2.2.2.2.2.2.2.2.2.2.2.2.2.1 0), wpa, (show ∀ n : Nat, _ = n from fun n => wfa.2.2.2.2.2.2.2.2.2.2.2.2.2.1 (Int.ofNat n)), (show _ = (0 : Nat) from wfa.2.2.2.2.2.2.2.2.2.2.2.2.2.1 0), wpz, (show ∀ n : Nat, _ = n from fun n => wfz.2.2.2.2.2.2.2.2.2.2.2.2.2.1 (Int.ofNat n)), (show _ = (0 : Nat) from wfz.2.2.2.2.2.2.2.2.2.2.2.2.2.1 0), getL, takeL, dropL, TK.isAgg, reduceIte])
      repeat' first | (with_reducible refine And.intro ?_ ?_) | intro c9 | trivial | (refine Later.mk ?_; cbv; try simp only [wp, (show ∀ n : Nat, _ = n from fun n => wf.2.2.2.2.2.2.2.2.2.2.2.2.2.1 (Int.ofNat n)), (show _ = (0 : Nat) from wf.2.2.2.2.2.2.2.2.2.2.2.2.2.1 0), wpa, (show ∀ n : Nat, _ = n from fun n => wfa.2.2.2.2.2.2.2.2.2.2.2.2.2.1 (Int.ofNat n)), (show _ = (0 : Nat) from wfa.2.2.2.2.2.2.2.2.2.2.2.2.2.1 0), wpz, (show ∀ n : Nat, _ = n from fun n => wfz.2.2.2.2.2.2.2.2.2.2.2.2.2.1 (Int.ofNat n)), (show _ = (0 : Nat) from wfz.2.2.2.2.2.2.2.2.2.2.2.2.2.1 0), getL, takeL, dropL, TK.isAgg, reduceIte])
      (refine CallW.frz @fun ⟨_, _, _, _, _, _, _, _, _, _, _, _, _, _, _, _, _, _, _, _, _, _, _, _, _, _, _, _, _, _, _, _, _, _, _, _, _, _, wpz, wfz⟩ => ?_; cbv; try simp only [wpz, wp, (show ∀ n : Nat, _ = n from fun n => wfz.2.2.2.2.2.2.2.2.2.2.2.2.2.1 (Int.ofNat n)), getL, takeL, dropL, TK.isAgg, reduceIte])
      repeat' first | (with_reducible refine And.intro ?_ ?_) | intro c9 | trivial | (refine Later.mk ?_; cbv; try simp only [wp, (show ∀ n : Nat, _ = n from fun n => wf.2.2.2.2.2.2.2.2.2.2.2.2.2.1 (Int.ofNat n)), (show _ = (0 : Nat) from wf.2.2.2.2.2.2.2.2.2.2.2.2.2.1 0), wpa, (show ∀ n : Nat, _ = n from fun n => wfa.2.2.2.2.2.2.2.2.2.2.2.2.2.1 (Int.ofNat n)), (show _ = (0 : Nat) from wfa.2.2.2.2.2.2.2.2.2.2.2.2.2.1 0), wpz, (show ∀ n : Nat, _ = n from fun n => wfz.2.2.2.2.2.2.2.2.2.2.2.2.2.1 (Int.ofNat n)), (show _ = (0 : Nat) from wfz.2.2.2.2.2.2.2.2.2.2.2.2.2.1 0), getL, takeL, dropL, TK.isAgg, reduceIte])
      refine CallW.within (free1 d (Yf i) op n s k C N W Q i G v ⟨hd, by omega⟩ (Yb i (Nat.le_refl _))) [0] rfl ⟨rfl, trivial⟩ rfl ?_
      rintro _ _ ⟨K2, rfl, rfl⟩
      refine ⟨hpF1 (stFr n d (Yf i)), K2, rfl, Nat.le_refl _, ⟨trivial, trivial⟩, rfl, ?_⟩
      obtain ⟨st, hst⟩ : ∃ st, st = stFr n d (Yf i) := ⟨_, rfl⟩
      rw [← hst] at hR ⊢
      (cbv; try simp only [wp, (show ∀ n : Nat, _ = n from fun n => wf.2.2.2.2.2.2.2.2.2.2.2.2.2.1 (Int.ofNat n)), (show _ = (0 : Nat) from wf.2.2.2.2.2.2.2.2.2.2.2.2.2.1 0), wpa, (show ∀ n : Nat, _ = n from fun n => wfa.2.2.2.2.2.2.2.2.2.2.2.2.2.1 (Int.ofNat n)), (show _ = (0 : Nat) from wfa.2.2.2.2.2.2.2.2.2.2.2.2.2.1 0), wpz, (show ∀ n : Nat, _ = n from fun n => wfz.2.2.2.2.2.2.2.2.2.2.2.2.2.1 (Int.ofNat n)), (show _ = (0 : Nat) from wfz.2.2.2.2.2.2.2.2.2.2.2.2.2.1 0), getL, takeL, dropL, TK.isAgg, reduceIte])
      repeat' first | (with_reducible refine And.intro ?_ ?_) | intro c9 | trivial | (refine Later.mk ?_; cbv; try simp only [wp, (show ∀ n : Nat, _ = n from fun n => wf.2.2.2.2.2.2.2.2.2.2.2.2.2.1 (Int.ofNat n)), (show _ = (0 : Nat) from wf.2.2.2.2.2.2.2.2.2.2.2.2.2.1 0), wpa, (show ∀ n : Nat, _ = n from fun n => wfa.2.2.2.2.2.2.2.2.2.2.2.2.2.1 (Int.ofNat n)), (show _ = (0 : Nat) from wfa.2.2.2.2.2.2.2.2.2.2.2.2.2.1 0), wpz, (show ∀ n : Nat, _ = n from fun n => wfz.2.2.2.2.2.2.2.2.2.2.2.2.2.1 (Int.ofNat n)), (show _ = (0 : Nat) from wfz.2.2.2.2.2.2.2.2.2.2.2.2.2.1 0), getL, takeL, dropL, TK.isAgg, reduceIte])
      exact hR _ _ ⟨_, rfl, .keep _ (belA_ok rfl)⟩
    · rw [if_neg v] at hR
      (cbv; try simp only [wp, (show ∀ n : Nat, _ = n from fun n => wf.2.2.2.2.2.2.2.2.2.2.2.2.2.1 (Int.ofNat n)), (show _ = (0 : Nat) from wf.2.2.2.2.2.2.2.2.2.2.2.2.2.1 0), wpa, (show ∀ n : Nat, _ = n from fun n => wfa.2.2.2.2.2.2.2.2.2.2.2.2.2.1 (Int.ofNat n)), (show _ = (0 : Nat) from wfa.2.2.2.2.2.2.2.2.2.2.2.2.2.1 0), wpz, (show ∀ n : Nat, _ = n from fun n => wfz.2.2.2.2.2.2.2.2.2.2.2.2.2.1 (Int.ofNat n)), (show _ = (0 : Nat) from wfz.2.2.2.2.2.2.2.2.2.2.2.2.2.1 0), getL, takeL, dropL, TK.isAgg, reduceIte])
      repeat' first | (with_reducible refine And.intro ?_ ?_) | intro c9 | trivial | (refine Later.mk ?_; cbv; try simp only [wp, (show ∀ n : Nat, _ = n from fun n => wf.2.2.2.2.2.2.2.2.2.2.2.2.2.1 (Int.ofNat n)), (show _ = (0 : Nat) from wf.2.2.2.2.2.2.2.2.2.2.2.2.2.1 0), wpa, (show ∀ n : Nat, _ = n from fun n => wfa.2.2.2.2.2.2.2.2.2.2.2.2.2.1 (Int.ofNat n)), (show _ = (0 : Nat) from wfa.2.2.2.2.2.2.2.2.2.2.2.2.2.1 0), wpz, (show ∀ n : Nat, _ = n from fun n => wfz.2.2.2.2.2.2.2.2.2.2.2.2.2.1 (Int.ofNat n)), (show _ = (0 : Nat) from wfz.2.2.2.2.2.2.2.2.2.2.2.2.2.1 0), getL, takeL, dropL, TK.isAgg, reduceIte])
      exact hR _ _ ⟨_, rfl, .aggs5 (.keep _ (.d _)) (.keep _ (.d _)) (.keep _ (.d _)) (.keep _ (.d _)) (.ref0 5 i 5 i i _ (by decide) rfl rfl)⟩
theorem mappedF (t : Tm) (y : Int) (hs : 4 * nodesT t ≤ 4194304) (hy0 : 0 ≤ y) (hy1 : y ≤ 4000000000) :
    VCalls (P ()) 40 [tm t, .clo 45 [] [.ptr 0 0]] (hpF1 y) (fun r H => ∃ K2, r = tm t ∧ H = hpF1 (runT stFr t 0 y) ++ K2) := by
  have hw := walkF t 0 y (by decide) (by omega) hy0 hy1
  unfold tm at hw ⊢
  obtain ⟨f, hf⟩ : ∃ f, f = tmD t := ⟨_, rfl⟩
  rw [← hf] at hw ⊢
  obtain ⟨st, hst⟩ : ∃ st, st = runT stFr t 0 y := ⟨_, rfl⟩
  rw [← hst] at hw ⊢
  clear hst
  clear hf
  refine VCalls_of_Wl (Tf := fun {_} _ => fzT [2] (T ())) (fun {_} => tabOk.frz [2]) [] 400 Tryz.func40 rfl (fun {_} => by kernel_rfl) (Nat.le_of_ble_eq_true rfl) @fun ⟨_, _, _, _, _, _, _, _, _, _, _, _, _, _, _, _, _, _, _, _, _, _, _, _, _, _, _, _, _, _, _, _, _, _, _, _, _, _, wp, wf⟩ nH R hnH hR => ?_
  subst hnH
  cbv
  try simp only [wp, (show ∀ n : Nat, _ = n from fun n => wf.2.2.2.2.2.2.2.2.2.2.2.2.2.1 (Int.ofNat n)), getL, takeL, dropL, TK.isAgg, reduceIte]
  repeat' first | (with_reducible refine And.intro ?_ ?_) | intro c9 | trivial | (refine Later.mk ?_; cbv; try simp only [wp, (show ∀ n : Nat, _ = n from fun n => wf.2.2.2.2.2.2.2.2.2.2.2.2.2.1 (Int.ofNat n)), (show _ = (0 : Nat) from wf.2.2.2.2.2.2.2.2.2.2.2.2.2.1 0), getL, takeL, dropL, TK.isAgg, reduceIte])
  refine CallW.within hw [0, 3, 1] rfl ⟨rfl, rfl, rfl, trivial⟩ rfl ?_
  rintro _ _ ⟨rfl, rfl⟩
  refine ⟨hpF st, [], rfl, Nat.le_refl _, ⟨trivial, trivial, trivial, trivial⟩, rfl, ?_⟩
  (cbv; try simp only [wp, (show ∀ n : Nat, _ = n from fun n => wf.2.2.2.2.2.2.2.2.2.2.2.2.2.1 (Int.ofNat n)), (show _ = (0 : Nat) from wf.2.2.2.2.2.2.2.2.2.2.2.2.2.1 0), getL, takeL, dropL, TK.isAgg, reduceIte])
  repeat' first | (with_reducible refine And.intro ?_ ?_) | intro c9 | trivial | (refine Later.mk ?_; cbv; try simp only [wp, (show ∀ n : Nat, _ = n from fun n => wf.2.2.2.2.2.2.2.2.2.2.2.2.2.1 (Int.ofNat n)), (show _ = (0 : Nat) from wf.2.2.2.2.2.2.2.2.2.2.2.2.2.1 0), getL, takeL, dropL, TK.isAgg, reduceIte])
  exact hR _ _ ⟨_, rfl, rfl⟩

end Go.VM
