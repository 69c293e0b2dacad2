/- Part of the proof: TT19. -/
import Derived.Test.YtfbecfnagidioaaGreatDoorGX14
namespace Go.VM
open Go.Proofs Go
set_option maxRecDepth 100000
set_option linter.unusedVariables false
set_option linter.unusedSimpArgs false
theorem withR (op n : Int) (s : ByteArray) (k : Nat) (C : Nat → Int) (N : Nat → Nat) (W Q : Nat → Nat → Int) (m : Nat) (G : Nat → Nat → D) (hk : k < 2 ^ 30) (hN : ∀ i, i < k → N i < 2 ^ 20) : VFun (P ()) 68 [tml op n s k C N W Q m G, .nils] (fun r => r = .agg [.d (.int .i64 op), .d (.int .i64 n), .d (.str s), .d (.sl k 2 (lsF C N W Q)), .nils]) := by
  have hc := CopyLevels k C N W Q hk hN
  refine VCalls.pureC2 (R1 := fun r H => r = .agg [.d (.int .i64 op), .d (.int .i64 n), .d (.str s), .d (.sl k 2 (lsF C N W Q)), .nils]) ?_ rfl rfl fun r H h => by
    subst h
    exact ⟨_, .keep _ (belA_ok rfl), rfl⟩
  refine VCalls_of_Wl (Tf := fun {_} _ => fzT [2] (T ())) (fun {_} => tabOk.frz [2]) [] 400 Tryz.func68 rfl (fun {_} => by kernel_rfl) (Nat.le_of_ble_eq_true rfl) @fun ⟨_, _, _, _, _, _, _, _, _, _, _, _, _, _, _, _, _, _, _, _, _, _, _, _, _, _, _, _, _, _, _, _, _, _, _, _, _, _, wp, wf⟩ nH R hnH hR => ?_
  subst hnH
  cbv
  try simp only [wp, (show ∀ n : Nat, _ = n from fun n => wf.2.2.2.2.2.2.2.2.2.2.2.2.2.1 (Int.ofNat n)), getL, takeL, dropL, TK.isAgg, reduceIte]
  repeat' first | (with_reducible refine And.intro ?_ ?_) | intro c9 | trivial | (refine Later.mk ?_; cbv; try simp only [wp, (show ∀ n : Nat, _ = n from fun n => wf.2.2.2.2.2.2.2.2.2.2.2.2.2.1 (Int.ofNat n)), (show _ = (0 : Nat) from wf.2.2.2.2.2.2.2.2.2.2.2.2.2.1 0), getL, takeL, dropL, TK.isAgg, reduceIte])
  refine hc.call ?_
  rintro _ rfl
  (cbv; try simp only [wp, (show ∀ n : Nat, _ = n from fun n => wf.2.2.2.2.2.2.2.2.2.2.2.2.2.1 (Int.ofNat n)), (show _ = (0 : Nat) from wf.2.2.2.2.2.2.2.2.2.2.2.2.2.1 0), getL, takeL, dropL, TK.isAgg, reduceIte])
  repeat' first | (with_reducible refine And.intro ?_ ?_) | intro c9 | trivial | (refine Later.mk ?_; cbv; try simp only [wp, (show ∀ n : Nat, _ = n from fun n => wf.2.2.2.2.2.2.2.2.2.2.2.2.2.1 (Int.ofNat n)), (show _ = (0 : Nat) from wf.2.2.2.2.2.2.2.2.2.2.2.2.2.1 0), getL, takeL, dropL, TK.isAgg, reduceIte])
  all_goals exact hR _ _ rfl
set_option maxHeartbeats 4000000 in
theorem rshift (frm by' : Int) (h3 : 0 ≤ frm ∧ frm ≤ 2147483648) (h4 : -2147483648 ≤ by' ∧ by' ≤ 2147483648) (t : Tm) : ∀ (d : Int), 0 ≤ d → d + 4 * nodesT t ≤ 4194304 →
    VFun (P ()) 164 [tm t, .d (.int .i64 by'), .d (.int .i64 frm), .d (.int .i64 d)] (fun r => ∃ b : Bool, (b = true ↔ OkT by' frm t d) ∧ r = .tup [if b then tm (mapT (fSh by' frm) t d) else tm Tm.leaf, .d (.bool b)]) := by
  refine Tm.walk (P := fun t => ∀ (d : Int), 0 ≤ d → d + 4 * nodesT t ≤ 4194304 →
    VFun (P ()) 164 [tm t, .d (.int .i64 by'), .d (.int .i64 frm), .d (.int .i64 d)] (fun r => ∃ b : Bool, (b = true ↔ OkT by' frm t d) ∧ r = .tup [if b then tm (mapT (fSh by' frm) t d) else tm Tm.leaf, .d (.bool b)])) ?_ t
  clear t
  intro op n s k C N W Q m ok K G hG e ih d hd hs
  rw [nodesT_nd] at hs
  have b1 := sumF_ge (f := fun i => 1 + N i) (fun i => by omega) k
  have b2 := sumF_ge (f := fun i => nodesT (K i)) (fun i => nodesT_pos _) m
  have b3 : ∀ i, i < k → N i ≤ 1048575 := fun i hi => by have := sumF_one (f := fun i => 1 + N i) hi; omega
  have b4 : ∀ i, i < m → d + 3 + 4 * nodesT (K i) ≤ 4194304 := fun i hi => by have := sumF_one (f := fun i => nodesT (K i)) hi; omega
  rw [e, sh_nd, OkT_nd]
  obtain ⟨G', hG', e'⟩ := tm_rows (op := op) (n := n) (s := s) (k := k) (C := C) (N := N) (W := W) (Q := Q) (m := m) (ok := ok) fun i => mapT (fSh by' frm) (K i) (d + bindI op m i)
  rw [e']
  obtain ⟨g3, g4, el⟩ := tm_leaf
  have ih' : ∀ i, i < m → ∀ (d' : Int), d' = d + bindI op m i → VFun (P ()) 164 [kid G i, .d (.int .i64 by'), .d (.int .i64 frm), .d (.int .i64 d')] (fun r => ∃ b : Bool, (b = true ↔ OkT by' frm (K i) (d + bindI op m i)) ∧ r = .tup [if b then kid G' i else tm Tm.leaf, .d (.bool b)]) := fun i hi d' hd' => by
    have hb := bindI_le op m i
    have := ih i hi d' (by omega) (by have := b4 i hi; omega)
    rw [hG i hi, hd', hG' i hi] at this
    rw [hd']
    exact this
  rw [el] at ih' ⊢
  obtain ⟨F, hF⟩ : ∃ F : Nat → Prop, F = fun i => OkT by' frm (K i) (d + bindI op m i) := ⟨_, rfl⟩
  replace ih' : ∀ i, i < m → ∀ (d' : Int), d' = d + bindI op m i → VFun (P ()) 164 [kid G i, .d (.int .i64 by'), .d (.int .i64 frm), .d (.int .i64 d')] (fun r => (F i ∧ r = .tup [kid G' i, .d (.bool true)]) ∨ (¬ F i ∧ r = .tup [.agg [.d (.int .i64 0), .d (.int .i64 0), .d (.str ByteArray.empty), .d (.sl 0 2 g3), .d (.sl 0 5 g4)], .d (.bool false)])) := fun i hi d' hd' => (ih' i hi d' hd').mono fun r h => by
    obtain ⟨b, h1, rfl⟩ := h
    rw [hF]
    cases b
    · exact .inr ⟨fun h => (by have := h1.2 h; cases this), rfl⟩
    · exact .inl ⟨h1.1 rfl, rfl⟩
  have b6 : d ≤ 4194304 := by omega
  have b5 : k ≤ 4194304 ∧ m ≤ 4194304 := ⟨by omega, by omega⟩
  have hc := withR op n s k C N W Q m G (by omega) (fun i hi => by have := b3 i hi; omega)
  have hbd := fun i => bindsR op n s k C N W Q m G i (by omega)
  have hv := variableR op n s k C N W Q m G
  show VFun (P ()) _ _ (fun r => ∃ b : Bool, (b = true ↔ (IsV op n → frm ≤ n - d → frm ≤ n + by' - d) ∧ ∀ i : Nat, i < m → OkT by' frm (K i) (d + bindI op m i)) ∧ _)
  have hF2 : (∀ i : Nat, i < m → OkT by' frm (K i) (d + bindI op m i)) ↔ ∀ i, i < m → F i := by rw [hF]
  rw [hF2]
  clear ih e e' hG hG' b4 b2 b1 hs hF hF2 el b3
  obtain ⟨nn, hnn⟩ : ∃ nn, shN by' frm op n d = nn := ⟨_, rfl⟩
  have e1 : IsV op n → frm ≤ n - d → nn = n + by' := fun v h => by
    rw [← hnn]; unfold shN; rw [if_pos ⟨v, h⟩, clampI_eq (by have := v.2.1; have := v.2.2; omega)]
  have e2 : ¬ (IsV op n ∧ frm ≤ n - d) → nn = n := fun h => by rw [← hnn]; unfold shN; rw [if_neg h]
  rw [hnn]
  clear hnn
  have ev : IsV op n → 0 ≤ n ∧ n ≤ 2147483648 := fun v => v.2
  refine vfunL (Tf := fun {_} _ => fzT [4] (T ())) (fun {_} => tabOk.frz [4]) [] 400 Tryz.func164 rfl (fun {_} => by kernel_rfl) rfl (Nat.le_of_ble_eq_true rfl) @fun ⟨_, _, _, _, _, _, _, _, _, _, _, _, _, _, _, _, _, _, _, _, _, _, _, _, _, _, _, _, _, _, _, _, _, _, _, _, _, _, wp, wf⟩ R hR => ?_
  cbv
  try simp only [wp, (show ∀ n : Nat, _ = n from fun n => wf.2.2.2.2.2.2.2.2.2.2.2.2.2.1 (Int.ofNat n)), getL, takeL, dropL, TK.isAgg, reduceIte]
  have hA : (∀ i, i < m → F i) → (IsV op n → frm ≤ n - d → frm ≤ n + by' - d) → ∀ H r, Frz H r (tml op nn s k C N W Q m G') → R (.tup [r, .d (.bool true)]) H := fun h1 h2 H r hf => hR _ _ _ (.tup2 hf (.d _)) ⟨true, iffT ⟨h2, h1⟩, rfl⟩
  have hB : (¬ ∀ i, i < m → F i) ∨ (IsV op n ∧ frm ≤ n - d ∧ n + by' - d < frm) → ∀ H, R (.tup [.agg [.d (.int .i64 0), .d (.int .i64 0), .d (.str ByteArray.empty), .nils, .nils], .d (.bool false)]) H := fun h H => hR _ _ _ (.tup2 (.z5 g3 g4 _ _ _) (.d _)) ⟨false, iffF fun h' => h.elim (fun h => h h'.2) fun h => by have := h'.1 h.1 h.2.1; omega, rfl⟩
  have hC : ∀ i, i < m → ¬ F i → ∀ H, R (.tup [.agg [.d (.int .i64 0), .d (.int .i64 0), .d (.str ByteArray.empty), .d (.sl 0 2 g3), .d (.sl 0 5 g4)], .d (.bool false)]) H := fun i hi h H => hR _ _ _ (.tup2 (.same5 _ _ _ _ _) (.d _)) ⟨false, iffF fun h' => h (h'.2 i hi), rfl⟩
  clear hR
  repeat' first | (with_reducible refine And.intro ?_ ?_) | intro c9 | trivial | (refine Later.mk ?_; cbv; try simp only [wp, (show ∀ n : Nat, _ = n from fun n => wf.2.2.2.2.2.2.2.2.2.2.2.2.2.1 (Int.ofNat n)), (show _ = (0 : Nat) from wf.2.2.2.2.2.2.2.2.2.2.2.2.2.1 0), getL, takeL, dropL, TK.isAgg, reduceIte])
  refine hc.call ?_
  rintro _ rfl
  (cbv; try simp only [wp, (show ∀ n : Nat, _ = n from fun n => wf.2.2.2.2.2.2.2.2.2.2.2.2.2.1 (Int.ofNat n)), (show _ = (0 : Nat) from wf.2.2.2.2.2.2.2.2.2.2.2.2.2.1 0), getL, takeL, dropL, TK.isAgg, reduceIte])
  repeat' first | (with_reducible refine And.intro ?_ ?_) | intro c9 | trivial | (refine Later.mk ?_; cbv; try simp only [wp, (show ∀ n : Nat, _ = n from fun n => wf.2.2.2.2.2.2.2.2.2.2.2.2.2.1 (Int.ofNat n)), (show _ = (0 : Nat) from wf.2.2.2.2.2.2.2.2.2.2.2.2.2.1 0), getL, takeL, dropL, TK.isAgg, reduceIte])
  refine hv.call ?_
  rintro _ ⟨b, hb, rfl⟩
  rcases hb.dich with ⟨rfl, v⟩ | ⟨rfl, v⟩ <;> clear hb <;> (cbv; try simp only [wp, (show ∀ n : Nat, _ = n from fun n => wf.2.2.2.2.2.2.2.2.2.2.2.2.2.1 (Int.ofNat n)), (show _ = (0 : Nat) from wf.2.2.2.2.2.2.2.2.2.2.2.2.2.1 0), getL, takeL, dropL, TK.isAgg, reduceIte])
  all_goals repeat' first | (with_reducible refine And.intro ?_ ?_) | intro c9 | trivial | (refine Later.mk ?_; cbv; try simp only [wp, (show ∀ n : Nat, _ = n from fun n => wf.2.2.2.2.2.2.2.2.2.2.2.2.2.1 (Int.ofNat n)), (show _ = (0 : Nat) from wf.2.2.2.2.2.2.2.2.2.2.2.2.2.1 0), getL, takeL, dropL, TK.isAgg, reduceIte])
  all_goals try exact hB (.inr ⟨v, by have := ev v; clear hA hB hC ih' hbd hc hv; exact (by (try simp only [wf, nc, nc', Int.toNat_natCast, bsz, ByteArray.size_append, List.length_cons, List.length_nil] at *); (try simp (disch := omega) only [w64, w32, wu8] at *); first | done | omega), by have := ev v; clear hA hB hC ih' hbd hc hv; exact (by (try simp only [wf, nc, nc', Int.toNat_natCast, bsz, ByteArray.size_append, List.length_cons, List.length_nil] at *); (try simp (disch := omega) only [w64, w32, wu8] at *); first | done | omega)⟩) _
  all_goals
    have hX : IsV op n → frm ≤ n - d → frm ≤ n + by' - d := (by
      intro v1 h1
      have := ev v1
      clear hA hB hC ih' hbd hc hv
      first | exact absurd v1 v | exact (by (try simp only [wf, nc, nc', Int.toNat_natCast, bsz, ByteArray.size_append, List.length_cons, List.length_nil] at *); (try simp (disch := omega) only [w64, w32, wu8] at *); first | done | omega))
    refine loopL (Tf := fun {_} _ => fzT [4] (T ())) (fun {_} => tabOk.frz [4]) [] 400 (fun y : Nat => match y with
      | 0 => ⟨[.undef, .d (.int .i64 by'), .d (.int .i64 frm), .d (.int .i64 d), .iptr (fun x j => getL [.int .i64 op, .int .i64 n, .str s, .sl k 2 (lsF C N W Q), .sl m 5 G] j .nilp) 0 0 5, .undef, .undef, .undef, .ptr 0 0, .d (.bool false), .ptr 1 0, .d (.int .i64 0), .undef, .undef, .undef, .undef, .undef, .undef, .undef, .undef, .undef, .undef, .undef, .undef, .undef, .undef, .undef, .undef, .undef, .undef, .undef, .undef, .undef, .undef, .undef, .undef, .undef, .undef, .undef, .undef, .undef, .undef, .undef, .undef, .undef, .undef, .undef, .undef, .undef, .undef, .undef, .undef, .undef, .undef, .undef, .undef, .undef, .undef, .undef, .undef, .undef, .undef, .undef, .undef, .undef, .undef, .undef, .undef, .undef, .undef, .undef], [.box [.undef, .undef, .undef, .undef, .undef], .box [.d (.int .i64 op), .d (.int .i64 nn), .d (.str s), .d (.sl k 2 (lsF C N W Q)), .nils]]⟩
      | i + 1 => ⟨[.undef, .d (.int .i64 by'), .d (.int .i64 frm), .d (.int .i64 d), .iptr (fun x j => getL [.int .i64 op, .int .i64 n, .str s, .sl k 2 (lsF C N W Q), .sl m 5 G] j .nilp) 0 0 5, .undef, .undef, .undef, .ptr 0 0, .d (.bool false), .ptr 1 0, .d (.int .i64 (i + 1 : Nat)), .undef, .undef, .undef, .undef, .undef, .undef, .undef, .undef, .undef, .undef, .undef, .undef, .undef, .undef, .undef, .undef, .undef, .undef, .undef, .undef, .undef, .undef, .undef, .undef, .undef, .undef, .undef, .undef, .undef, .undef, .undef, .undef, .undef, .undef, .undef, .undef, .undef, .undef, .undef, .undef, .undef, .undef, .undef, .undef, .undef, .undef, .undef, .undef, .undef, .undef, .undef, .undef, .undef, .undef, .undef, .undef, .undef, .undef, .undef], [.box [.undef, .undef, .undef, .undef, .undef], .box [.d (.int .i64 op), .d (.int .i64 nn), .d (.str s), .d (.sl k 2 (lsF C N W Q)), .ref 4 0 (i + 1) 5], .dead, .dead, .arr (i + 1) 5 G' 0]⟩) (fun y => m - y) (fun y => y ≤ m ∧ ∀ j, j < y → F j) 0 ⟨Nat.zero_le _, fun j hj => absurd hj (Nat.not_lt_zero _)⟩ (fun {_} => by kernel_rfl) ?_ (fun i => by cases i <;> kernel_rfl) @fun ⟨_, _, _, _, _, _, _, _, _, _, _, _, _, _, _, _, _, _, _, _, _, _, _, _, _, _, _, _, _, _, _, _, _, _, _, _, _, _, wpa, wfa⟩ i Bk hi hBk => ?_
    · (cbv; try simp only [wf, exD, exL, exT, exB, exA, leLs, leL_d, leL_undef, leL_nils, leA_nils, deq_refl, deq_int, deq_bool, deq_str, and_true, true_and, AObj.iter.injEq, nc, nc']; try simp (disch := omega) only [w64, w32, wu8])
      refine ⟨?_, rfl⟩
      clear hA hB hC ih' hbd hc hv hX
      first
        | exact (e2 (fun h => v h.1)).symm
        | (have := ev v
           have := e2 (fun h => absurd h.2 (by (try simp only [wf, nc, nc', Int.toNat_natCast, bsz, ByteArray.size_append, List.length_cons, List.length_nil] at *); (try simp (disch := omega) only [w64, w32, wu8] at *); first | done | omega))
           exact (by (try simp only [wf, nc, nc', Int.toNat_natCast, bsz, ByteArray.size_append, List.length_cons, List.length_nil] at *); (try simp (disch := omega) only [w64, w32, wu8] at *); first | done | omega))
        | (have := ev v
           have := e1 v (by (try simp only [wf, nc, nc', Int.toNat_natCast, bsz, ByteArray.size_append, List.length_cons, List.length_nil] at *); (try simp (disch := omega) only [w64, w32, wu8] at *); first | done | omega)
           exact (by (try simp only [wf, nc, nc', Int.toNat_natCast, bsz, ByteArray.size_append, List.length_cons, List.length_nil] at *); (try simp (disch := omega) only [w64, w32, wu8] at *); first | done | omega))
    obtain ⟨i1, i2⟩ := hi
    cases i with
    | zero =>
      (cbv; try simp only [wp, (show ∀ n : Nat, _ = n from fun n => wf.2.2.2.2.2.2.2.2.2.2.2.2.2.1 (Int.ofNat n)), (show _ = (0 : Nat) from wf.2.2.2.2.2.2.2.2.2.2.2.2.2.1 0), wpa, (show ∀ n : Nat, _ = n from fun n => wfa.2.2.2.2.2.2.2.2.2.2.2.2.2.1 (Int.ofNat n)), (show _ = (0 : Nat) from wfa.2.2.2.2.2.2.2.2.2.2.2.2.2.1 0), getL, takeL, dropL, TK.isAgg, reduceIte])
      refine ⟨fun e => ?_, fun e => ?_⟩
      · have e : 0 < m := (by (try simp only [wf, wfa, nc, nc', Int.toNat_natCast, bsz, ByteArray.size_append, List.length_cons, List.length_nil] at *); (try simp (disch := omega) only [w64, w32, wu8] at *); first | done | omega)
        (refine Later.mk ?_; cbv; try simp only [wp, (show ∀ n : Nat, _ = n from fun n => wf.2.2.2.2.2.2.2.2.2.2.2.2.2.1 (Int.ofNat n)), (show _ = (0 : Nat) from wf.2.2.2.2.2.2.2.2.2.2.2.2.2.1 0), wpa, (show ∀ n : Nat, _ = n from fun n => wfa.2.2.2.2.2.2.2.2.2.2.2.2.2.1 (Int.ofNat n)), (show _ = (0 : Nat) from wfa.2.2.2.2.2.2.2.2.2.2.2.2.2.1 0), getL, takeL, dropL, TK.isAgg, reduceIte])
        repeat' first | (with_reducible refine And.intro ?_ ?_) | intro c9 | trivial | (refine Later.mk ?_; cbv; try simp only [wp, (show ∀ n : Nat, _ = n from fun n => wf.2.2.2.2.2.2.2.2.2.2.2.2.2.1 (Int.ofNat n)), (show _ = (0 : Nat) from wf.2.2.2.2.2.2.2.2.2.2.2.2.2.1 0), wpa, (show ∀ n : Nat, _ = n from fun n => wfa.2.2.2.2.2.2.2.2.2.2.2.2.2.1 (Int.ofNat n)), (show _ = (0 : Nat) from wfa.2.2.2.2.2.2.2.2.2.2.2.2.2.1 0), getL, takeL, dropL, TK.isAgg, reduceIte])
        all_goals first | exact (by (try simp only [wf, wfa, nc, nc', Int.toNat_natCast, bsz, ByteArray.size_append, List.length_cons, List.length_nil] at *); (try simp (disch := omega) only [w64, w32, wu8] at *); first | done | omega) | skip
        all_goals
          refine (hbd (0 : Nat)).call ?_
          rintro _ rfl
          obtain ⟨bi, hbi⟩ : ∃ bi, bi = bindI op m (0 : Nat) := ⟨_, rfl⟩
          have hbl := bindI_le op m (0 : Nat)
          rw [← hbi] at hbl ⊢
          (cbv; try simp only [wp, (show ∀ n : Nat, _ = n from fun n => wf.2.2.2.2.2.2.2.2.2.2.2.2.2.1 (Int.ofNat n)), (show _ = (0 : Nat) from wf.2.2.2.2.2.2.2.2.2.2.2.2.2.1 0), wpa, (show ∀ n : Nat, _ = n from fun n => wfa.2.2.2.2.2.2.2.2.2.2.2.2.2.1 (Int.ofNat n)), (show _ = (0 : Nat) from wfa.2.2.2.2.2.2.2.2.2.2.2.2.2.1 0), getL, takeL, dropL, TK.isAgg, reduceIte])
          repeat' first | (with_reducible refine And.intro ?_ ?_) | intro c9 | trivial | (refine Later.mk ?_; cbv; try simp only [wp, (show ∀ n : Nat, _ = n from fun n => wf.2.2.2.2.2.2.2.2.2.2.2.2.2.1 (Int.ofNat n)), (show _ = (0 : Nat) from wf.2.2.2.2.2.2.2.2.2.2.2.2.2.1 0), wpa, (show ∀ n : Nat, _ = n from fun n => wfa.2.2.2.2.2.2.2.2.2.2.2.2.2.1 (Int.ofNat n)), (show _ = (0 : Nat) from wfa.2.2.2.2.2.2.2.2.2.2.2.2.2.1 0), getL, takeL, dropL, TK.isAgg, reduceIte])
        all_goals
          refine (ih' (0) e _ (by rw [← hbi]; exact (by (try simp only [wf, wfa, nc, nc', Int.toNat_natCast, bsz, ByteArray.size_append, List.length_cons, List.length_nil] at *); (try simp (disch := omega) only [w64, w32, wu8] at *); first | done | omega))).call ?_
          rintro _ (⟨hf, rfl⟩ | ⟨hf, rfl⟩)
        all_goals (cbv; try simp only [wp, (show ∀ n : Nat, _ = n from fun n => wf.2.2.2.2.2.2.2.2.2.2.2.2.2.1 (Int.ofNat n)), (show _ = (0 : Nat) from wf.2.2.2.2.2.2.2.2.2.2.2.2.2.1 0), wpa, (show ∀ n : Nat, _ = n from fun n => wfa.2.2.2.2.2.2.2.2.2.2.2.2.2.1 (Int.ofNat n)), (show _ = (0 : Nat) from wfa.2.2.2.2.2.2.2.2.2.2.2.2.2.1 0), getL, takeL, dropL, TK.isAgg, reduceIte])
        all_goals
          repeat' first | (with_reducible refine And.intro ?_ ?_) | intro c9 | trivial | (refine Later.mk ?_; cbv; try simp only [wp, (show ∀ n : Nat, _ = n from fun n => wf.2.2.2.2.2.2.2.2.2.2.2.2.2.1 (Int.ofNat n)), (show _ = (0 : Nat) from wf.2.2.2.2.2.2.2.2.2.2.2.2.2.1 0), wpa, (show ∀ n : Nat, _ = n from fun n => wfa.2.2.2.2.2.2.2.2.2.2.2.2.2.1 (Int.ofNat n)), (show _ = (0 : Nat) from wfa.2.2.2.2.2.2.2.2.2.2.2.2.2.1 0), getL, takeL, dropL, TK.isAgg, reduceIte])
        all_goals first
          | exact hB (.inl fun h => hf (h _ e)) _
          | exact Nat.zero_le _
          | exact (by (try simp only [wf, wfa, nc, nc', Int.toNat_natCast, bsz, ByteArray.size_append, List.length_cons, List.length_nil] at *); (try simp (disch := omega) only [w64, w32, wu8] at *); first | done | omega)
          | (refine hBk (0 + 1) _ (by omega) ⟨by omega, fun j hj => ?_⟩ ?_
             · by_cases ej : j = 0
               · subst ej; exact hf
               · exact i2 j (by omega)
             · (cbv; try simp only [wf, wfa, exD, exL, exT, exB, exA, leLs, leL_d, leL_undef, leL_nils, leA_nils, deq_refl, deq_int, deq_bool, deq_str, and_true, true_and, AObj.iter.injEq, nc, nc']; try simp (disch := omega) only [w64, w32, wu8])
               try ((try simp only [wf, wfa, nc, nc', Int.toNat_natCast, bsz, ByteArray.size_append, List.length_cons, List.length_nil] at *); (try simp (disch := omega) only [w64, w32, wu8] at *))
               exact ⟨rfl, rfl, Nat.le_refl _, Nat.zero_le _, fun x j hx hj => .of_eq (by
                 obtain rfl : x = 0 := by omega
                 match j, hj with
                 | 0, _ | 1, _ | 2, _ | 3, _ | 4, _ => rfl)⟩)
      · obtain rfl : m = 0 := by have : m ≤ 0 := (by (try simp only [wf, wfa, nc, nc', Int.toNat_natCast, bsz, ByteArray.size_append, List.length_cons, List.length_nil] at *); (try simp (disch := omega) only [w64, w32, wu8] at *); first | done | omega); omega
        (refine Later.mk ?_; cbv; try simp only [wp, (show ∀ n : Nat, _ = n from fun n => wf.2.2.2.2.2.2.2.2.2.2.2.2.2.1 (Int.ofNat n)), (show _ = (0 : Nat) from wf.2.2.2.2.2.2.2.2.2.2.2.2.2.1 0), wpa, (show ∀ n : Nat, _ = n from fun n => wfa.2.2.2.2.2.2.2.2.2.2.2.2.2.1 (Int.ofNat n)), (show _ = (0 : Nat) from wfa.2.2.2.2.2.2.2.2.2.2.2.2.2.1 0), getL, takeL, dropL, TK.isAgg, reduceIte])
        exact hA i2 hX _ _ (.agg _ _ rfl (frzs_cons (.d _) (frzs_cons (.d _) (frzs_cons (.d _) (frzs_cons (.d _) (frzs_cons (.nils _ _) (frzs_nil _)))))))
    | succ i =>
      (cbv; try simp only [wp, (show ∀ n : Nat, _ = n from fun n => wf.2.2.2.2.2.2.2.2.2.2.2.2.2.1 (Int.ofNat n)), (show _ = (0 : Nat) from wf.2.2.2.2.2.2.2.2.2.2.2.2.2.1 0), wpa, (show ∀ n : Nat, _ = n from fun n => wfa.2.2.2.2.2.2.2.2.2.2.2.2.2.1 (Int.ofNat n)), (show _ = (0 : Nat) from wfa.2.2.2.2.2.2.2.2.2.2.2.2.2.1 0), getL, takeL, dropL, TK.isAgg, reduceIte])
      refine ⟨fun e => ?_, fun e => ?_⟩
      · have e : i + 1 < m := (by (try simp only [wf, wfa, nc, nc', Int.toNat_natCast, bsz, ByteArray.size_append, List.length_cons, List.length_nil] at *); (try simp (disch := omega) only [w64, w32, wu8] at *); first | done | omega)
        (refine Later.mk ?_; cbv; try simp only [wp, (show ∀ n : Nat, _ = n from fun n => wf.2.2.2.2.2.2.2.2.2.2.2.2.2.1 (Int.ofNat n)), (show _ = (0 : Nat) from wf.2.2.2.2.2.2.2.2.2.2.2.2.2.1 0), wpa, (show ∀ n : Nat, _ = n from fun n => wfa.2.2.2.2.2.2.2.2.2.2.2.2.2.1 (Int.ofNat n)), (show _ = (0 : Nat) from wfa.2.2.2.2.2.2.2.2.2.2.2.2.2.1 0), getL, takeL, dropL, TK.isAgg, reduceIte])
        repeat' first | (with_reducible refine And.intro ?_ ?_) | intro c9 | trivial | (refine Later.mk ?_; cbv; try simp only [wp, (show ∀ n : Nat, _ = n from fun n => wf.2.2.2.2.2.2.2.2.2.2.2.2.2.1 (Int.ofNat n)), (show _ = (0 : Nat) from wf.2.2.2.2.2.2.2.2.2.2.2.2.2.1 0), wpa, (show ∀ n : Nat, _ = n from fun n => wfa.2.2.2.2.2.2.2.2.2.2.2.2.2.1 (Int.ofNat n)), (show _ = (0 : Nat) from wfa.2.2.2.2.2.2.2.2.2.2.2.2.2.1 0), getL, takeL, dropL, TK.isAgg, reduceIte])
        all_goals first | exact (by (try simp only [wf, wfa, nc, nc', Int.toNat_natCast, bsz, ByteArray.size_append, List.length_cons, List.length_nil] at *); (try simp (disch := omega) only [w64, w32, wu8] at *); first | done | omega) | skip
        all_goals
          refine (hbd (i + 1 : Nat)).call ?_
          rintro _ rfl
          obtain ⟨bi, hbi⟩ : ∃ bi, bi = bindI op m (i + 1 : Nat) := ⟨_, rfl⟩
          have hbl := bindI_le op m (i + 1 : Nat)
          rw [← hbi] at hbl ⊢
          (cbv; try simp only [wp, (show ∀ n : Nat, _ = n from fun n => wf.2.2.2.2.2.2.2.2.2.2.2.2.2.1 (Int.ofNat n)), (show _ = (0 : Nat) from wf.2.2.2.2.2.2.2.2.2.2.2.2.2.1 0), wpa, (show ∀ n : Nat, _ = n from fun n => wfa.2.2.2.2.2.2.2.2.2.2.2.2.2.1 (Int.ofNat n)), (show _ = (0 : Nat) from wfa.2.2.2.2.2.2.2.2.2.2.2.2.2.1 0), getL, takeL, dropL, TK.isAgg, reduceIte])
          repeat' first | (with_reducible refine And.intro ?_ ?_) | intro c9 | trivial | (refine Later.mk ?_; cbv; try simp only [wp, (show ∀ n : Nat, _ = n from fun n => wf.2.2.2.2.2.2.2.2.2.2.2.2.2.1 (Int.ofNat n)), (show _ = (0 : Nat) from wf.2.2.2.2.2.2.2.2.2.2.2.2.2.1 0), wpa, (show ∀ n : Nat, _ = n from fun n => wfa.2.2.2.2.2.2.2.2.2.2.2.2.2.1 (Int.ofNat n)), (show _ = (0 : Nat) from wfa.2.2.2.2.2.2.2.2.2.2.2.2.2.1 0), getL, takeL, dropL, TK.isAgg, reduceIte])
        all_goals
          refine (ih' (i + 1) e _ (by rw [← hbi]; exact (by (try simp only [wf, wfa, nc, nc', Int.toNat_natCast, bsz, ByteArray.size_append, List.length_cons, List.length_nil] at *); (try simp (disch := omega) only [w64, w32, wu8] at *); first | done | omega))).call ?_
          rintro _ (⟨hf, rfl⟩ | ⟨hf, rfl⟩)
        all_goals (cbv; try simp only [wp, (show ∀ n : Nat, _ = n from fun n => wf.2.2.2.2.2.2.2.2.2.2.2.2.2.1 (Int.ofNat n)), (show _ = (0 : Nat) from wf.2.2.2.2.2.2.2.2.2.2.2.2.2.1 0), wpa, (show ∀ n : Nat, _ = n from fun n => wfa.2.2.2.2.2.2.2.2.2.2.2.2.2.1 (Int.ofNat n)), (show _ = (0 : Nat) from wfa.2.2.2.2.2.2.2.2.2.2.2.2.2.1 0), getL, takeL, dropL, TK.isAgg, reduceIte])
        all_goals
          repeat' first | (with_reducible refine And.intro ?_ ?_) | intro c9 | trivial | (refine Later.mk ?_; cbv; try simp only [wp, (show ∀ n : Nat, _ = n from fun n => wf.2.2.2.2.2.2.2.2.2.2.2.2.2.1 (Int.ofNat n)), (show _ = (0 : Nat) from wf.2.2.2.2.2.2.2.2.2.2.2.2.2.1 0), wpa, (show ∀ n : Nat, _ = n from fun n => wfa.2.2.2.2.2.2.2.2.2.2.2.2.2.1 (Int.ofNat n)), (show _ = (0 : Nat) from wfa.2.2.2.2.2.2.2.2.2.2.2.2.2.1 0), getL, takeL, dropL, TK.isAgg, reduceIte])
        all_goals first
          | exact hB (.inl fun h => hf (h _ e)) _
          | exact Nat.zero_le _
          | exact (by (try simp only [wf, wfa, nc, nc', Int.toNat_natCast, bsz, ByteArray.size_append, List.length_cons, List.length_nil] at *); (try simp (disch := omega) only [w64, w32, wu8] at *); first | done | omega)
          | (refine hBk (i + 1 + 1) _ (by omega) ⟨by omega, fun j hj => ?_⟩ ?_
             · by_cases ej : j = i + 1
               · subst ej; exact hf
               · exact i2 j (by omega)
             · (cbv; try simp only [wf, wfa, exD, exL, exT, exB, exA, leLs, leL_d, leL_undef, leL_nils, leA_nils, deq_refl, deq_int, deq_bool, deq_str, and_true, true_and, AObj.iter.injEq, nc, nc']; try simp (disch := omega) only [w64, w32, wu8])
               try ((try simp only [wf, wfa, nc, nc', Int.toNat_natCast, bsz, ByteArray.size_append, List.length_cons, List.length_nil] at *); (try simp (disch := omega) only [w64, w32, wu8] at *))
               exact ⟨by omega, rfl, Nat.le_refl _, Nat.zero_le _, fun x j hx hj => .of_eq (app_row2 (g' := G') (fun _ _ _ _ => rfl) (fun j hj => by
                 match j, hj with
                 | 0, _ | 1, _ | 2, _ | 3, _ | 4, _ => rfl) x j hx hj)⟩)
      · obtain rfl : m = i + 1 := by have : m ≤ i + 1 := (by (try simp only [wf, wfa, nc, nc', Int.toNat_natCast, bsz, ByteArray.size_append, List.length_cons, List.length_nil] at *); (try simp (disch := omega) only [w64, w32, wu8] at *); first | done | omega); omega
        (refine Later.mk ?_; cbv; try simp only [wp, (show ∀ n : Nat, _ = n from fun n => wf.2.2.2.2.2.2.2.2.2.2.2.2.2.1 (Int.ofNat n)), (show _ = (0 : Nat) from wf.2.2.2.2.2.2.2.2.2.2.2.2.2.1 0), wpa, (show ∀ n : Nat, _ = n from fun n => wfa.2.2.2.2.2.2.2.2.2.2.2.2.2.1 (Int.ofNat n)), (show _ = (0 : Nat) from wfa.2.2.2.2.2.2.2.2.2.2.2.2.2.1 0), getL, takeL, dropL, TK.isAgg, reduceIte])
        exact hA i2 hX _ _ (.agg _ _ rfl (frzs_cons (.d _) (frzs_cons (.d _) (frzs_cons (.d _) (frzs_cons (.d _) (frzs_cons (.ref0 _ _ _ _ _ _ rfl rfl) (frzs_nil _)))))))
end Go.VM
