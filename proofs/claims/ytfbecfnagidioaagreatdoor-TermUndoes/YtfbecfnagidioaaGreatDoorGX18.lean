/- Part of the proof: TT26, TT27, TT32, TT33, TT34, TT23, TP2. -/
import Derived.Test.YtfbecfnagidioaaGreatDoorGX16
import Derived.Test.YtfbecfnagidioaaGreatDoorGX17
import Derived.Test.YtfbecfnagidioaaGreatDoorGX8
import Derived.Test.YtfbecfnagidioaaGreatDoorGX13
namespace Go.VM
open Go.Proofs Go
set_option maxRecDepth 100000
set_option linter.unusedVariables false
set_option linter.unusedSimpArgs false
/-- the objects that a filling works with -/
abbrev hpG1 (len : Nat) (GB : Nat → Nat → D) : AHeap := [.box [.d (.sl len 5 GB)]]
abbrev hpGw (len : Nat) (GB : Nat → Nat → D) : AHeap := [.box [.d (.sl len 5 GB)], .box [.clo 73 [] [.ptr 1 0, .ptr 2 0]], .box [.clo 41 [] [.ptr 0 0]]]
set_option maxHeartbeats 1000000 in
theorem fill1 (len : Nat) (GB : Nat → Nat → D) (B : Nat → Tm) (hl : len ≤ 100000) (hB : ∀ i, i < len → tm (B i) = kid GB i) (hS : ∀ i, i < len → 4 * nodesT (B i) ≤ 4194304) (d : Int) (op n : Int) (s : ByteArray) (k : Nat) (C : Nat → Int) (N : Nat → Nat) (W Q : Nat → Nat → Int) (m : Nat) (G : Nat → Nat → D) (h1 : IsV op n) (h2 : 0 ≤ d ∧ d ≤ 4194304) :
    VCalls (P ()) 41 [tml op n s k C N W Q m G, .d (.int .i64 d), .ptr 0 0] (hpG1 len GB) (fun r H => ∃ K2, H = hpG1 len GB ++ K2 ∧ ((n - d < 0 ∧ r = tml op n s k C N W Q m G) ∨ (0 ≤ n - d ∧ n - d < len ∧ r = tm (mapT (fSh d 0) (B (n - d).toNat) 0)) ∨ (len ≤ n - d ∧ r = tml op (n - len) s k C N W Q m G))) := by
  obtain ⟨v1, v2, v3⟩ := h1
  have sh : 0 ≤ n - d → n - d < len → VFun (P ()) 19 [kid GB (n - d).toNat, .d (.int .i64 d), .d (.int .i64 0)] (fun r => r = .tup [tm (mapT (fSh d 0) (B (n - d).toNat) 0), .d (.bool true)]) := fun h3 h4 => by
    have := ShiftT 0 d (B (n - d).toNat) (hS _ (by omega))
    rw [hB _ (by omega)] at this
    refine this.mono ?_
    rintro _ ⟨x, b, q1, q2, _, rfl⟩
    obtain rfl := q1.2 ⟨⟨by decide, by decide, by omega, by omega⟩, OkT_up h2.1 0 _ 0⟩
    rw [q2 rfl]
  refine VCalls_of_Wl (Tf := fun {_} _ => fzT [] (T ())) (fun {_} => tabOk.frz []) [] 400 Tryz.func41 rfl (fun {_} => by kernel_rfl) (Nat.le_of_ble_eq_true rfl) @fun ⟨_, _, _, _, _, _, _, _, _, _, _, _, _, _, _, _, _, _, _, _, _, _, _, _, _, _, _, _, _, _, _, _, _, _, _, _, _, _, wp, wf⟩ nH R hnH hR => ?_
  subst hnH
  cbv
  try simp only [wp, (show ∀ n : Nat, _ = n from fun n => wf.2.2.2.2.2.2.2.2.2.2.2.2.2.1 (Int.ofNat n)), getL, takeL, dropL, TK.isAgg, reduceIte]
  replace hR := fun K2 r h => hR r (hpG1 len GB ++ K2) ⟨K2, rfl, h⟩
  repeat' first | (with_reducible refine And.intro ?_ ?_) | intro c9 | trivial | (refine Later.mk ?_; cbv; try simp only [wp, (show ∀ n : Nat, _ = n from fun n => wf.2.2.2.2.2.2.2.2.2.2.2.2.2.1 (Int.ofNat n)), (show _ = (0 : Nat) from wf.2.2.2.2.2.2.2.2.2.2.2.2.2.1 0), getL, takeL, dropL, TK.isAgg, reduceIte])
  all_goals first
    | exact hR _ _ (.inl ⟨by clear hR; exact (by (try simp only [wf, nc, nc', Int.toNat_natCast, bsz, ByteArray.size_append, List.length_cons, List.length_nil] at *); (try simp (disch := omega) only [w64, w32, wu8] at *); first | done | omega), rfl⟩)
    | exact hR _ _ (.inr (.inr ⟨by clear hR; exact (by (try simp only [wf, nc, nc', Int.toNat_natCast, bsz, ByteArray.size_append, List.length_cons, List.length_nil] at *); (try simp (disch := omega) only [w64, w32, wu8] at *); first | done | omega), by clear hR; ((try simp only [wf, nc, nc', Int.toNat_natCast, bsz, ByteArray.size_append, List.length_cons, List.length_nil] at *); (try simp (disch := omega) only [w64, w32, wu8] at *)); try rfl⟩))
    | (clear hR; exact (by (try simp only [wf, nc, nc', Int.toNat_natCast, bsz, ByteArray.size_append, List.length_cons, List.length_nil] at *); (try simp (disch := omega) only [w64, w32, wu8] at *); first | done | omega))
    | skip
  refine CallW.args (args' := [kid GB (n - d).toNat, .d (.int .i64 d), .d (.int .i64 0)]) (fun {_ _} => ⟨⟨_, rfl, .of_eq (by clear hR; ((try simp only [wf, nc, nc', Int.toNat_natCast, bsz, ByteArray.size_append, List.length_cons, List.length_nil] at *); (try simp (disch := omega) only [w64, w32, wu8] at *))), .of_eq (by clear hR; ((try simp only [wf, nc, nc', Int.toNat_natCast, bsz, ByteArray.size_append, List.length_cons, List.length_nil] at *); (try simp (disch := omega) only [w64, w32, wu8] at *))), .of_eq (by clear hR; ((try simp only [wf, nc, nc', Int.toNat_natCast, bsz, ByteArray.size_append, List.length_cons, List.length_nil] at *); (try simp (disch := omega) only [w64, w32, wu8] at *))), .of_eq (by clear hR; ((try simp only [wf, nc, nc', Int.toNat_natCast, bsz, ByteArray.size_append, List.length_cons, List.length_nil] at *); (try simp (disch := omega) only [w64, w32, wu8] at *))), .of_eq (by clear hR; ((try simp only [wf, nc, nc', Int.toNat_natCast, bsz, ByteArray.size_append, List.length_cons, List.length_nil] at *); (try simp (disch := omega) only [w64, w32, wu8] at *))), trivial⟩, .refl _, .refl _, trivial⟩) ?_
  have h5 : 0 ≤ n - d := (by clear hR; exact (by (try simp only [wf, nc, nc', Int.toNat_natCast, bsz, ByteArray.size_append, List.length_cons, List.length_nil] at *); (try simp (disch := omega) only [w64, w32, wu8] at *); first | done | omega))
  have h6 : n - d < len := (by clear hR; exact (by (try simp only [wf, nc, nc', Int.toNat_natCast, bsz, ByteArray.size_append, List.length_cons, List.length_nil] at *); (try simp (disch := omega) only [w64, w32, wu8] at *); first | done | omega))
  refine (sh h5 h6).call ?_
  rintro _ rfl
  obtain ⟨q, hq⟩ : ∃ q, q = mapT (fSh d 0) (B (n - d).toNat) 0 := ⟨_, rfl⟩
  rw [← hq] at hR ⊢
  obtain ⟨fq, eq⟩ : ∃ fq : Nat → D, tm q = .agg [.d (fq 0), .d (fq 1), .d (fq 2), .d (fq 3), .d (fq 4)] := ⟨tmD q, rfl⟩
  rw [eq] at hR ⊢
  clear hq eq sh
  (cbv; try simp only [wp, (show ∀ n : Nat, _ = n from fun n => wf.2.2.2.2.2.2.2.2.2.2.2.2.2.1 (Int.ofNat n)), (show _ = (0 : Nat) from wf.2.2.2.2.2.2.2.2.2.2.2.2.2.1 0), getL, takeL, dropL, TK.isAgg, reduceIte])
  repeat' first | (with_reducible refine And.intro ?_ ?_) | intro c9 | trivial | (refine Later.mk ?_; cbv; try simp only [wp, (show ∀ n : Nat, _ = n from fun n => wf.2.2.2.2.2.2.2.2.2.2.2.2.2.1 (Int.ofNat n)), (show _ = (0 : Nat) from wf.2.2.2.2.2.2.2.2.2.2.2.2.2.1 0), getL, takeL, dropL, TK.isAgg, reduceIte])
  all_goals exact hR _ _ (.inr (.inl ⟨h5, h6, rfl⟩))
set_option maxHeartbeats 4000000 in
theorem walkG (len : Nat) (GB : Nat → Nat → D) (B : Nat → Tm) (hl : len ≤ 100000) (hB : ∀ i, i < len → tm (B i) = kid GB i) (hS : ∀ i, i < len → 4 * nodesT (B i) ≤ 4194304) (t : Tm) : ∀ (d : Int), 0 ≤ d → d + 4 * nodesT t ≤ 4194304 →
    VCalls (P ()) 73 [tm t, .d (.int .i64 d), .ptr 1 0, .ptr 2 0] (hpGw len GB) (fun r H => r = tm (mapT (fFl len B) t d) ∧ H = hpGw len GB) := by
  refine Tm.walk (P := fun t => ∀ (d : Int), 0 ≤ d → d + 4 * nodesT t ≤ 4194304 →
    VCalls (P ()) 73 [tm t, .d (.int .i64 d), .ptr 1 0, .ptr 2 0] (hpGw len GB) (fun r H => r = tm (mapT (fFl len B) t d) ∧ H = hpGw len GB)) ?_ t
  clear t
  intro op n s k C N W Q m ok K G hG e ih d hd hs
  rw [nodesT_nd] at hs
  have b1 := sumF_ge (f := fun i => 1 + N i) (fun i => by omega) k
  have b2 := sumF_ge (f := fun i => nodesT (K i)) (fun i => nodesT_pos _) m
  have b3 : ∀ i, i < k → N i ≤ 1048575 := fun i hi => by have := sumF_one (f := fun i => 1 + N i) hi; omega
  have b4 : ∀ i, i < m → d + 3 + 4 * nodesT (K i) ≤ 4194304 := fun i hi => by have := sumF_one (f := fun i => nodesT (K i)) hi; omega
  obtain ⟨G', hG', e'⟩ := tm_rows (op := op) (n := n) (s := s) (k := k) (C := C) (N := N) (W := W) (Q := Q) (m := m) (ok := ok) fun i => mapT (fFl len B) (K i) (d + bindI op m i)
  have r1 : (IsV op n → n - d < 0) → tm (mapT (fFl len B) (.nd op n s k C N W Q m ok K) d) = tml op n s k C N W Q m G' := fun h => by rw [fl_out len B d h, e']
  have r2 : IsV op n → 0 ≤ n - d → n - d < len → tm (mapT (fFl len B) (.nd op n s k C N W Q m ok K) d) = tm (mapT (fSh d 0) (B (n - d).toNat) 0) := fun v h1 h2 => by rw [fl_in len B d v h1 h2]
  have r3 : IsV op n → len ≤ n - d → tm (mapT (fFl len B) (.nd op n s k C N W Q m ok K) d) = tml op (n - len) s k C N W Q m G' := fun v h => by
    have vv := v.2
    rw [fl_over len B d v h ⟨ok.op, by omega, ok.s, ok.k, ok.N, ok.m⟩, e']
  obtain ⟨RF, hRF⟩ : ∃ RF, RF = tm (mapT (fFl len B) (.nd op n s k C N W Q m ok K) d) := ⟨_, rfl⟩
  rw [← hRF] at r1 r2 r3 ⊢
  rw [e]
  have ih' : ∀ i, i < m → ∀ (d' : Int), d' = d + bindI op m i → VCalls (P ()) 73 [kid G i, .d (.int .i64 d'), .ptr 1 0, .ptr 2 0] (hpGw len GB) (fun r H => r = kid G' i ∧ H = hpGw len GB) := fun i hi d' hd' => by
    have hb := bindI_le op m i
    have := ih i hi d' (by omega) (by have := b4 i hi; omega)
    rw [hG i hi, hd', hG' i hi] at this
    rw [hd']
    exact this
  have b6 : d ≤ 4194304 := by omega
  have b5 : k ≤ 4194304 ∧ m ≤ 4194304 := ⟨by omega, by omega⟩
  clear ih e e' hG hG' b4 b2 b1 hs hRF
  have hc := copied k C N W Q (by omega) (fun i hi => by have := b3 i hi; omega)
  have hbd := fun i => bindsT op n s k C N W Q m G i (by omega)
  have f1 := fun h1 => fill1 len GB B hl hB hS d op n s k C N W Q m G' h1 ⟨hd, b6⟩
  obtain ⟨SB, hSB⟩ : ∃ SB : Int → A, SB = fun z => tm (mapT (fSh d 0) (B z.toNat) 0) := ⟨_, rfl⟩
  obtain ⟨fSB, hf⟩ : ∃ fSB : Int → Nat → D, ∀ z, tm (mapT (fSh d 0) (B z.toNat) 0) = .agg [.d (fSB z 0), .d (fSB z 1), .d (fSB z 2), .d (fSB z 3), .d (fSB z 4)] := ⟨fun z => tmD (mapT (fSh d 0) (B z.toNat) 0), fun z => rfl⟩
  rw [hf] at r2 f1
  clear hf hSB SB hB hS
  refine VCalls.ice (R1 := fun r H => ∃ K2, H = hpGw len GB ++ K2 ∧ FrzM 3 (fun i => i) H r RF) ?_ rfl rfl rfl rfl fun r H' h => by
    obtain ⟨K2, e, f⟩ := h
    exact ⟨_, _, K2, e, rfl, f, ⟨trivial, trivial, trivial, trivial⟩, rfl, rfl, rfl, rfl⟩
  refine VCalls_of_Wl (Tf := fun {_} _ => fzT [] (T ())) (fun {_} => tabOk.frz []) [] 400 Tryz.func73 rfl (fun {_} => by kernel_rfl) (Nat.le_of_ble_eq_true rfl) @fun ⟨_, _, _, _, _, _, _, _, _, _, _, _, _, _, _, _, _, _, _, _, _, _, _, _, _, _, _, _, _, _, _, _, _, _, _, _, _, _, wp, wf⟩ nH R hnH hR => ?_
  subst hnH
  cbv
  try simp only [wp, (show ∀ n : Nat, _ = n from fun n => wf.2.2.2.2.2.2.2.2.2.2.2.2.2.1 (Int.ofNat n)), getL, takeL, dropL, TK.isAgg, reduceIte]
  refine hc.call ?_
  rintro _ rfl
  (cbv; try simp only [wp, (show ∀ n : Nat, _ = n from fun n => wf.2.2.2.2.2.2.2.2.2.2.2.2.2.1 (Int.ofNat n)), (show _ = (0 : Nat) from wf.2.2.2.2.2.2.2.2.2.2.2.2.2.1 0), getL, takeL, dropL, TK.isAgg, reduceIte])
  repeat' first | (with_reducible refine And.intro ?_ ?_) | intro c9 | trivial | (refine Later.mk ?_; cbv; try simp only [wp, (show ∀ n : Nat, _ = n from fun n => wf.2.2.2.2.2.2.2.2.2.2.2.2.2.1 (Int.ofNat n)), (show _ = (0 : Nat) from wf.2.2.2.2.2.2.2.2.2.2.2.2.2.1 0), getL, takeL, dropL, TK.isAgg, reduceIte])
  refine loopGhost 7 5 rfl ?_
  refine loopL (Tf := fun {_} _ => fzT [] (T ())) (fun {_} => tabOk.frz []) [] 400 (fun i : Nat => ⟨[.undef, .d (.int .i64 d), .ptr 1 0, .ptr 2 0, .ptr 3 0, .undef, .ptr 4 0, .ref 5 0 i 5, .undef, .undef, .undef, .undef, .undef, .undef, .undef, .d (.sl m 5 G), .d (.int .i64 m), .d (.int .i64 i), .undef, .undef, .undef, .undef, .undef, .undef, .undef, .undef, .undef, .undef, .undef, .undef, .undef, .undef, .undef, .undef, .undef, .undef, .undef, .undef, .undef, .undef, .undef, .undef, .undef],
    [.box [.d (.sl len 5 GB)], .box [.clo 73 [] [.ptr 1 0, .ptr 2 0]], .box [.clo 41 [] [.ptr 0 0]], .box [.d (.int .i64 op), .d (.int .i64 n), .d (.str s), .d (.sl k 2 (lsF C N W Q)), .d (.sl m 5 G)], .box [.undef, .undef, .undef, .undef, .undef], .arr i 5 G' 0]⟩) (fun i => m - i) (fun i => i ≤ m) 0 (Nat.zero_le _) (fun {_} => by kernel_rfl) ?_ (fun i => by kernel_rfl) @fun ⟨_, _, _, _, _, _, _, _, _, _, _, _, _, _, _, _, _, _, _, _, _, _, _, _, _, _, _, _, _, _, _, _, _, _, _, _, _, _, wpa, wfa⟩ i Bk hi hBk => ?_
  · (cbv; try simp only [wf, exD, exL, exT, exB, exA, leLs, leL_d, leL_undef, leL_nils, leA_nils, deq_refl, deq_int, deq_bool, deq_str, and_true, true_and, AObj.iter.injEq, nc, nc']; try simp (disch := omega) only [w64, w32, wu8])
    exact ⟨rfl, rfl, rfl, Nat.le_refl _, Nat.le_refl _, fun i j hi => absurd hi (Nat.not_lt_zero _)⟩
  (cbv; try simp only [wp, (show ∀ n : Nat, _ = n from fun n => wf.2.2.2.2.2.2.2.2.2.2.2.2.2.1 (Int.ofNat n)), (show _ = (0 : Nat) from wf.2.2.2.2.2.2.2.2.2.2.2.2.2.1 0), wpa, (show ∀ n : Nat, _ = n from fun n => wfa.2.2.2.2.2.2.2.2.2.2.2.2.2.1 (Int.ofNat n)), (show _ = (0 : Nat) from wfa.2.2.2.2.2.2.2.2.2.2.2.2.2.1 0), getL, takeL, dropL, TK.isAgg, reduceIte])
  refine ⟨fun e => ?_, fun e => ?_⟩
  · have e : i < m := (by (try simp only [wf, wfa, nc, nc', Int.toNat_natCast, bsz, ByteArray.size_append, List.length_cons, List.length_nil] at *); (try simp (disch := omega) only [w64, w32, wu8] at *); first | done | omega)
    (refine Later.mk ?_; cbv; try simp only [wp, (show ∀ n : Nat, _ = n from fun n => wf.2.2.2.2.2.2.2.2.2.2.2.2.2.1 (Int.ofNat n)), (show _ = (0 : Nat) from wf.2.2.2.2.2.2.2.2.2.2.2.2.2.1 0), wpa, (show ∀ n : Nat, _ = n from fun n => wfa.2.2.2.2.2.2.2.2.2.2.2.2.2.1 (Int.ofNat n)), (show _ = (0 : Nat) from wfa.2.2.2.2.2.2.2.2.2.2.2.2.2.1 0), getL, takeL, dropL, TK.isAgg, reduceIte])
    repeat' first | (with_reducible refine And.intro ?_ ?_) | intro c9 | trivial | (refine Later.mk ?_; cbv; try simp only [wp, (show ∀ n : Nat, _ = n from fun n => wf.2.2.2.2.2.2.2.2.2.2.2.2.2.1 (Int.ofNat n)), (show _ = (0 : Nat) from wf.2.2.2.2.2.2.2.2.2.2.2.2.2.1 0), wpa, (show ∀ n : Nat, _ = n from fun n => wfa.2.2.2.2.2.2.2.2.2.2.2.2.2.1 (Int.ofNat n)), (show _ = (0 : Nat) from wfa.2.2.2.2.2.2.2.2.2.2.2.2.2.1 0), getL, takeL, dropL, TK.isAgg, reduceIte])
    all_goals first | exact (by (try simp only [wf, wfa, nc, nc', Int.toNat_natCast, bsz, ByteArray.size_append, List.length_cons, List.length_nil] at *); (try simp (disch := omega) only [w64, w32, wu8] at *); first | done | omega) | skip
    all_goals
      refine (hbd i).call ?_
      rintro _ rfl
      obtain ⟨bi, hbi⟩ : ∃ bi, bi = bindI op m i := ⟨_, rfl⟩
      have hbl := bindI_le op m i
      rw [← hbi] at hbl ⊢
      (cbv; try simp only [wp, (show ∀ n : Nat, _ = n from fun n => wf.2.2.2.2.2.2.2.2.2.2.2.2.2.1 (Int.ofNat n)), (show _ = (0 : Nat) from wf.2.2.2.2.2.2.2.2.2.2.2.2.2.1 0), wpa, (show ∀ n : Nat, _ = n from fun n => wfa.2.2.2.2.2.2.2.2.2.2.2.2.2.1 (Int.ofNat n)), (show _ = (0 : Nat) from wfa.2.2.2.2.2.2.2.2.2.2.2.2.2.1 0), getL, takeL, dropL, TK.isAgg, reduceIte])
      repeat' first | (with_reducible refine And.intro ?_ ?_) | intro c9 | trivial | (refine Later.mk ?_; cbv; try simp only [wp, (show ∀ n : Nat, _ = n from fun n => wf.2.2.2.2.2.2.2.2.2.2.2.2.2.1 (Int.ofNat n)), (show _ = (0 : Nat) from wf.2.2.2.2.2.2.2.2.2.2.2.2.2.1 0), wpa, (show ∀ n : Nat, _ = n from fun n => wfa.2.2.2.2.2.2.2.2.2.2.2.2.2.1 (Int.ofNat n)), (show _ = (0 : Nat) from wfa.2.2.2.2.2.2.2.2.2.2.2.2.2.1 0), getL, takeL, dropL, TK.isAgg, reduceIte])
    all_goals
      refine CallW.within (ih' i e _ (by rw [← hbi]; exact (by (try simp only [wf, wfa, nc, nc', Int.toNat_natCast, bsz, ByteArray.size_append, List.length_cons, List.length_nil] at *); (try simp (disch := omega) only [w64, w32, wu8] at *); first | done | omega))) [0, 1, 2] rfl ⟨rfl, rfl, rfl, trivial⟩ rfl ?_
      rintro _ _ ⟨rfl, rfl⟩
      refine ⟨hpGw len GB, [], rfl, Nat.le_refl _, ⟨trivial, trivial, trivial, trivial⟩, rfl, ?_⟩
      (cbv; try simp only [wp, (show ∀ n : Nat, _ = n from fun n => wf.2.2.2.2.2.2.2.2.2.2.2.2.2.1 (Int.ofNat n)), (show _ = (0 : Nat) from wf.2.2.2.2.2.2.2.2.2.2.2.2.2.1 0), wpa, (show ∀ n : Nat, _ = n from fun n => wfa.2.2.2.2.2.2.2.2.2.2.2.2.2.1 (Int.ofNat n)), (show _ = (0 : Nat) from wfa.2.2.2.2.2.2.2.2.2.2.2.2.2.1 0), getL, takeL, dropL, TK.isAgg, reduceIte])
      repeat' first | (with_reducible refine And.intro ?_ ?_) | intro c9 | trivial | (refine Later.mk ?_; cbv; try simp only [wp, (show ∀ n : Nat, _ = n from fun n => wf.2.2.2.2.2.2.2.2.2.2.2.2.2.1 (Int.ofNat n)), (show _ = (0 : Nat) from wf.2.2.2.2.2.2.2.2.2.2.2.2.2.1 0), wpa, (show ∀ n : Nat, _ = n from fun n => wfa.2.2.2.2.2.2.2.2.2.2.2.2.2.1 (Int.ofNat n)), (show _ = (0 : Nat) from wfa.2.2.2.2.2.2.2.2.2.2.2.2.2.1 0), getL, takeL, dropL, TK.isAgg, reduceIte])
    all_goals first
      | exact Nat.zero_le _
      | exact (by (try simp only [wf, wfa, nc, nc', Int.toNat_natCast, bsz, ByteArray.size_append, List.length_cons, List.length_nil] at *); (try simp (disch := omega) only [w64, w32, wu8] at *); first | done | omega)
      | (refine hBk (i + 1) _ (by omega) (by omega) ?_
         (cbv; try simp only [wf, wfa, exD, exL, exT, exB, exA, leLs, leL_d, leL_undef, leL_nils, leA_nils, deq_refl, deq_int, deq_bool, deq_str, and_true, true_and, AObj.iter.injEq, nc, nc']; try simp (disch := omega) only [w64, w32, wu8])
         ((try simp only [wf, wfa, nc, nc', Int.toNat_natCast, bsz, ByteArray.size_append, List.length_cons, List.length_nil] at *); (try simp (disch := omega) only [w64, w32, wu8] at *))
         exact ⟨by omega, rfl, rfl, Nat.le_refl _, Nat.zero_le _, fun x j hx hj => .of_eq (app_row2 (g' := G') (fun _ _ _ _ => rfl) (fun j hj => by
           match j, hj with
           | 0, _ | 1, _ | 2, _ | 3, _ | 4, _ => rfl) x j hx hj)⟩)
  · obtain rfl : i = m := (by (try simp only [wf, wfa, nc, nc', Int.toNat_natCast, bsz, ByteArray.size_append, List.length_cons, List.length_nil] at *); (try simp (disch := omega) only [w64, w32, wu8] at *); first | done | omega)
    (refine Later.mk ?_; cbv; try simp only [wp, (show ∀ n : Nat, _ = n from fun n => wf.2.2.2.2.2.2.2.2.2.2.2.2.2.1 (Int.ofNat n)), (show _ = (0 : Nat) from wf.2.2.2.2.2.2.2.2.2.2.2.2.2.1 0), wpa, (show ∀ n : Nat, _ = n from fun n => wfa.2.2.2.2.2.2.2.2.2.2.2.2.2.1 (Int.ofNat n)), (show _ = (0 : Nat) from wfa.2.2.2.2.2.2.2.2.2.2.2.2.2.1 0), getL, takeL, dropL, TK.isAgg, reduceIte])
    have hv := variableT op n s k C N W Q i G'
    (refine CallW.frz @fun ⟨_, _, _, _, _, _, _, _, _, _, _, _, _, _, _, _, _, _, _, _, _, _, _, _, _, _, _, _, _, _, _, _, _, _, _, _, _, _, wpz, wfz⟩ => ?_; cbv; try simp only [wpz, wp, (show ∀ n : Nat, _ = n from fun n => wfz.2.2.2.2.2.2.2.2.2.2.2.2.2.1 (Int.ofNat n)), getL, takeL, dropL, TK.isAgg, reduceIte])
    repeat' first | (with_reducible refine And.intro ?_ ?_) | intro c9 | trivial | (refine Later.mk ?_; cbv; try simp only [wp, (show ∀ n : Nat, _ = n from fun n => wf.2.2.2.2.2.2.2.2.2.2.2.2.2.1 (Int.ofNat n)), (show _ = (0 : Nat) from wf.2.2.2.2.2.2.2.2.2.2.2.2.2.1 0), wpa, (show ∀ n : Nat, _ = n from fun n => wfa.2.2.2.2.2.2.2.2.2.2.2.2.2.1 (Int.ofNat n)), (show _ = (0 : Nat) from wfa.2.2.2.2.2.2.2.2.2.2.2.2.2.1 0), getL, takeL, dropL, TK.isAgg, reduceIte])
    refine hv.call ?_
    rintro _ ⟨b, hb, rfl⟩
    rcases hb.dich with ⟨rfl, v⟩ | ⟨rfl, v⟩ <;> clear hb
    · (cbv; try simp only [wp, (show ∀ n : Nat, _ = n from fun n => wf.2.2.2.2.2.2.2.2.2.2.2.2.2.1 (Int.ofNat n)), (show _ = (0 : Nat) from wf.2.2.2.2.2.2.2.2.2.2.2.2.2.1 0), wpa, (show ∀ n : Nat, _ = n from fun n => wfa.2.2.2.2.2.2.2.2.2.2.2.2.2.1 (Int.ofNat n)), (show _ = (0 : Nat) from wfa.2.2.2.2.2.2.2.2.2.2.2.2.2.1 0), wpz, (show ∀ n : Nat, _ = n from fun n => wfz.2.2.2.2.2.2.2.2.2.2.2.2.2.1 (Int.ofNat n)), (show _ = (0 : Nat) from wfz.2.2.2.2.2.2.2.2.2.2.2.2.2.1 0), getL, takeL, dropL, TK.isAgg, reduceIte])
      repeat' first | (with_reducible refine And.intro ?_ ?_) | intro c9 | trivial | (refine Later.mk ?_; cbv; try simp only [wp, (show ∀ n : Nat, _ = n from fun n => wf.2.2.2.2.2.2.2.2.2.2.2.2.2.1 (Int.ofNat n)), (show _ = (0 : Nat) from wf.2.2.2.2.2.2.2.2.2.2.2.2.2.1 0), wpa, (show ∀ n : Nat, _ = n from fun n => wfa.2.2.2.2.2.2.2.2.2.2.2.2.2.1 (Int.ofNat n)), (show _ = (0 : Nat) from wfa.2.2.2.2.2.2.2.2.2.2.2.2.2.1 0), wpz, (show ∀ n : Nat, _ = n from fun n => wfz.2.2.2.2.2.2.2.2.2.2.2.2.2.1 (Int.ofNat n)), (show _ = (0 : Nat) from wfz.2.2.2.2.2.2.2.2.2.2.2.2.2.1 0), getL, takeL, dropL, TK.isAgg, reduceIte])
      (refine CallW.frz @fun ⟨_, _, _, _, _, _, _, _, _, _, _, _, _, _, _, _, _, _, _, _, _, _, _, _, _, _, _, _, _, _, _, _, _, _, _, _, _, _, wpz, wfz⟩ => ?_; cbv; try simp only [wpz, wp, (show ∀ n : Nat, _ = n from fun n => wfz.2.2.2.2.2.2.2.2.2.2.2.2.2.1 (Int.ofNat n)), getL, takeL, dropL, TK.isAgg, reduceIte])
      repeat' first | (with_reducible refine And.intro ?_ ?_) | intro c9 | trivial | (refine Later.mk ?_; cbv; try simp only [wp, (show ∀ n : Nat, _ = n from fun n => wf.2.2.2.2.2.2.2.2.2.2.2.2.2.1 (Int.ofNat n)), (show _ = (0 : Nat) from wf.2.2.2.2.2.2.2.2.2.2.2.2.2.1 0), wpa, (show ∀ n : Nat, _ = n from fun n => wfa.2.2.2.2.2.2.2.2.2.2.2.2.2.1 (Int.ofNat n)), (show _ = (0 : Nat) from wfa.2.2.2.2.2.2.2.2.2.2.2.2.2.1 0), wpz, (show ∀ n : Nat, _ = n from fun n => wfz.2.2.2.2.2.2.2.2.2.2.2.2.2.1 (Int.ofNat n)), (show _ = (0 : Nat) from wfz.2.2.2.2.2.2.2.2.2.2.2.2.2.1 0), getL, takeL, dropL, TK.isAgg, reduceIte])
      refine CallW.within (f1 v) [0] rfl ⟨rfl, trivial⟩ rfl ?_
      rintro _ _ ⟨K2, rfl, hq⟩
      rcases hq with ⟨q1, rfl⟩ | ⟨q1, q2, rfl⟩ | ⟨q1, rfl⟩
      · rw [r1 fun _ => q1] at hR
        refine ⟨hpG1 len GB, K2, rfl, Nat.le_refl _, ⟨trivial, trivial⟩, rfl, ?_⟩
        (cbv; try simp only [wp, (show ∀ n : Nat, _ = n from fun n => wf.2.2.2.2.2.2.2.2.2.2.2.2.2.1 (Int.ofNat n)), (show _ = (0 : Nat) from wf.2.2.2.2.2.2.2.2.2.2.2.2.2.1 0), wpa, (show ∀ n : Nat, _ = n from fun n => wfa.2.2.2.2.2.2.2.2.2.2.2.2.2.1 (Int.ofNat n)), (show _ = (0 : Nat) from wfa.2.2.2.2.2.2.2.2.2.2.2.2.2.1 0), wpz, (show ∀ n : Nat, _ = n from fun n => wfz.2.2.2.2.2.2.2.2.2.2.2.2.2.1 (Int.ofNat n)), (show _ = (0 : Nat) from wfz.2.2.2.2.2.2.2.2.2.2.2.2.2.1 0), getL, takeL, dropL, TK.isAgg, reduceIte])
        repeat' first | (with_reducible refine And.intro ?_ ?_) | intro c9 | trivial | (refine Later.mk ?_; cbv; try simp only [wp, (show ∀ n : Nat, _ = n from fun n => wf.2.2.2.2.2.2.2.2.2.2.2.2.2.1 (Int.ofNat n)), (show _ = (0 : Nat) from wf.2.2.2.2.2.2.2.2.2.2.2.2.2.1 0), wpa, (show ∀ n : Nat, _ = n from fun n => wfa.2.2.2.2.2.2.2.2.2.2.2.2.2.1 (Int.ofNat n)), (show _ = (0 : Nat) from wfa.2.2.2.2.2.2.2.2.2.2.2.2.2.1 0), wpz, (show ∀ n : Nat, _ = n from fun n => wfz.2.2.2.2.2.2.2.2.2.2.2.2.2.1 (Int.ofNat n)), (show _ = (0 : Nat) from wfz.2.2.2.2.2.2.2.2.2.2.2.2.2.1 0), getL, takeL, dropL, TK.isAgg, reduceIte])
        exact hR _ _ ⟨_, rfl, .keep _ (belA_ok rfl)⟩
      · rw [r2 v q1 q2] at hR
        refine ⟨hpG1 len GB, K2, rfl, Nat.le_refl _, ⟨trivial, trivial⟩, rfl, ?_⟩
        (cbv; try simp only [wp, (show ∀ n : Nat, _ = n from fun n => wf.2.2.2.2.2.2.2.2.2.2.2.2.2.1 (Int.ofNat n)), (show _ = (0 : Nat) from wf.2.2.2.2.2.2.2.2.2.2.2.2.2.1 0), wpa, (show ∀ n : Nat, _ = n from fun n => wfa.2.2.2.2.2.2.2.2.2.2.2.2.2.1 (Int.ofNat n)), (show _ = (0 : Nat) from wfa.2.2.2.2.2.2.2.2.2.2.2.2.2.1 0), wpz, (show ∀ n : Nat, _ = n from fun n => wfz.2.2.2.2.2.2.2.2.2.2.2.2.2.1 (Int.ofNat n)), (show _ = (0 : Nat) from wfz.2.2.2.2.2.2.2.2.2.2.2.2.2.1 0), getL, takeL, dropL, TK.isAgg, reduceIte])
        repeat' first | (with_reducible refine And.intro ?_ ?_) | intro c9 | trivial | (refine Later.mk ?_; cbv; try simp only [wp, (show ∀ n : Nat, _ = n from fun n => wf.2.2.2.2.2.2.2.2.2.2.2.2.2.1 (Int.ofNat n)), (show _ = (0 : Nat) from wf.2.2.2.2.2.2.2.2.2.2.2.2.2.1 0), wpa, (show ∀ n : Nat, _ = n from fun n => wfa.2.2.2.2.2.2.2.2.2.2.2.2.2.1 (Int.ofNat n)), (show _ = (0 : Nat) from wfa.2.2.2.2.2.2.2.2.2.2.2.2.2.1 0), wpz, (show ∀ n : Nat, _ = n from fun n => wfz.2.2.2.2.2.2.2.2.2.2.2.2.2.1 (Int.ofNat n)), (show _ = (0 : Nat) from wfz.2.2.2.2.2.2.2.2.2.2.2.2.2.1 0), getL, takeL, dropL, TK.isAgg, reduceIte])
        exact hR _ _ ⟨_, rfl, .keep _ (belA_ok rfl)⟩
      · rw [r3 v q1] at hR
        obtain ⟨nl, hnl⟩ : ∃ nl, nl = n - (len : Int) := ⟨_, rfl⟩
        rw [← hnl] at hR ⊢
        refine ⟨hpG1 len GB, K2, rfl, Nat.le_refl _, ⟨trivial, trivial⟩, rfl, ?_⟩
        (cbv; try simp only [wp, (show ∀ n : Nat, _ = n from fun n => wf.2.2.2.2.2.2.2.2.2.2.2.2.2.1 (Int.ofNat n)), (show _ = (0 : Nat) from wf.2.2.2.2.2.2.2.2.2.2.2.2.2.1 0), wpa, (show ∀ n : Nat, _ = n from fun n => wfa.2.2.2.2.2.2.2.2.2.2.2.2.2.1 (Int.ofNat n)), (show _ = (0 : Nat) from wfa.2.2.2.2.2.2.2.2.2.2.2.2.2.1 0), wpz, (show ∀ n : Nat, _ = n from fun n => wfz.2.2.2.2.2.2.2.2.2.2.2.2.2.1 (Int.ofNat n)), (show _ = (0 : Nat) from wfz.2.2.2.2.2.2.2.2.2.2.2.2.2.1 0), getL, takeL, dropL, TK.isAgg, reduceIte])
        repeat' first | (with_reducible refine And.intro ?_ ?_) | intro c9 | trivial | (refine Later.mk ?_; cbv; try simp only [wp, (show ∀ n : Nat, _ = n from fun n => wf.2.2.2.2.2.2.2.2.2.2.2.2.2.1 (Int.ofNat n)), (show _ = (0 : Nat) from wf.2.2.2.2.2.2.2.2.2.2.2.2.2.1 0), wpa, (show ∀ n : Nat, _ = n from fun n => wfa.2.2.2.2.2.2.2.2.2.2.2.2.2.1 (Int.ofNat n)), (show _ = (0 : Nat) from wfa.2.2.2.2.2.2.2.2.2.2.2.2.2.1 0), wpz, (show ∀ n : Nat, _ = n from fun n => wfz.2.2.2.2.2.2.2.2.2.2.2.2.2.1 (Int.ofNat n)), (show _ = (0 : Nat) from wfz.2.2.2.2.2.2.2.2.2.2.2.2.2.1 0), getL, takeL, dropL, TK.isAgg, reduceIte])
        exact hR _ _ ⟨_, rfl, .keep _ (belA_ok rfl)⟩
    · rw [r1 fun h => absurd h v] at hR
      (cbv; try simp only [wp, (show ∀ n : Nat, _ = n from fun n => wf.2.2.2.2.2.2.2.2.2.2.2.2.2.1 (Int.ofNat n)), (show _ = (0 : Nat) from wf.2.2.2.2.2.2.2.2.2.2.2.2.2.1 0), wpa, (show ∀ n : Nat, _ = n from fun n => wfa.2.2.2.2.2.2.2.2.2.2.2.2.2.1 (Int.ofNat n)), (show _ = (0 : Nat) from wfa.2.2.2.2.2.2.2.2.2.2.2.2.2.1 0), wpz, (show ∀ n : Nat, _ = n from fun n => wfz.2.2.2.2.2.2.2.2.2.2.2.2.2.1 (Int.ofNat n)), (show _ = (0 : Nat) from wfz.2.2.2.2.2.2.2.2.2.2.2.2.2.1 0), getL, takeL, dropL, TK.isAgg, reduceIte])
      repeat' first | (with_reducible refine And.intro ?_ ?_) | intro c9 | trivial | (refine Later.mk ?_; cbv; try simp only [wp, (show ∀ n : Nat, _ = n from fun n => wf.2.2.2.2.2.2.2.2.2.2.2.2.2.1 (Int.ofNat n)), (show _ = (0 : Nat) from wf.2.2.2.2.2.2.2.2.2.2.2.2.2.1 0), wpa, (show ∀ n : Nat, _ = n from fun n => wfa.2.2.2.2.2.2.2.2.2.2.2.2.2.1 (Int.ofNat n)), (show _ = (0 : Nat) from wfa.2.2.2.2.2.2.2.2.2.2.2.2.2.1 0), wpz, (show ∀ n : Nat, _ = n from fun n => wfz.2.2.2.2.2.2.2.2.2.2.2.2.2.1 (Int.ofNat n)), (show _ = (0 : Nat) from wfz.2.2.2.2.2.2.2.2.2.2.2.2.2.1 0), getL, takeL, dropL, TK.isAgg, reduceIte])
      exact hR _ _ ⟨_, rfl, .aggs5 (.keep _ (.d _)) (.keep _ (.d _)) (.keep _ (.d _)) (.keep _ (.d _)) (.ref0 5 i 5 i i _ (by decide) rfl rfl)⟩
theorem mappedG (len : Nat) (GB : Nat → Nat → D) (B : Nat → Tm) (hl : len ≤ 100000) (hB : ∀ i, i < len → tm (B i) = kid GB i) (hS : ∀ i, i < len → 4 * nodesT (B i) ≤ 4194304) (t : Tm) (hs : 4 * nodesT t ≤ 4194304) :
    VCalls (P ()) 40 [tm t, .clo 41 [] [.ptr 0 0]] (hpG1 len GB) (fun r H => ∃ K2, r = tm (mapT (fFl len B) t 0) ∧ H = hpG1 len GB ++ K2) := by
  have hw := walkG len GB B hl hB hS t 0 (by decide) (by omega)
  unfold tm at hw ⊢
  obtain ⟨f, hf⟩ : ∃ f, f = tmD t := ⟨_, rfl⟩
  obtain ⟨g, hg⟩ : ∃ g, g = tmD (mapT (fFl len B) t 0) := ⟨_, rfl⟩
  rw [← hf, ← hg] at hw ⊢
  clear hf hg
  refine VCalls_of_Wl (Tf := fun {_} _ => fzT [2] (T ())) (fun {_} => tabOk.frz [2]) [] 400 Tryz.func40 rfl (fun {_} => by kernel_rfl) (Nat.le_of_ble_eq_true rfl) @fun ⟨_, _, _, _, _, _, _, _, _, _, _, _, _, _, _, _, _, _, _, _, _, _, _, _, _, _, _, _, _, _, _, _, _, _, _, _, _, _, wp, wf⟩ nH R hnH hR => ?_
  subst hnH
  cbv
  try simp only [wp, (show ∀ n : Nat, _ = n from fun n => wf.2.2.2.2.2.2.2.2.2.2.2.2.2.1 (Int.ofNat n)), getL, takeL, dropL, TK.isAgg, reduceIte]
  repeat' first | (with_reducible refine And.intro ?_ ?_) | intro c9 | trivial | (refine Later.mk ?_; cbv; try simp only [wp, (show ∀ n : Nat, _ = n from fun n => wf.2.2.2.2.2.2.2.2.2.2.2.2.2.1 (Int.ofNat n)), (show _ = (0 : Nat) from wf.2.2.2.2.2.2.2.2.2.2.2.2.2.1 0), getL, takeL, dropL, TK.isAgg, reduceIte])
  refine CallW.within hw [0, 3, 1] rfl ⟨rfl, rfl, rfl, trivial⟩ rfl ?_
  rintro _ _ ⟨rfl, rfl⟩
  refine ⟨hpGw len GB, [], rfl, Nat.le_refl _, ⟨trivial, trivial, trivial, trivial⟩, rfl, ?_⟩
  (cbv; try simp only [wp, (show ∀ n : Nat, _ = n from fun n => wf.2.2.2.2.2.2.2.2.2.2.2.2.2.1 (Int.ofNat n)), (show _ = (0 : Nat) from wf.2.2.2.2.2.2.2.2.2.2.2.2.2.1 0), getL, takeL, dropL, TK.isAgg, reduceIte])
  repeat' first | (with_reducible refine And.intro ?_ ?_) | intro c9 | trivial | (refine Later.mk ?_; cbv; try simp only [wp, (show ∀ n : Nat, _ = n from fun n => wf.2.2.2.2.2.2.2.2.2.2.2.2.2.1 (Int.ofNat n)), (show _ = (0 : Nat) from wf.2.2.2.2.2.2.2.2.2.2.2.2.2.1 0), getL, takeL, dropL, TK.isAgg, reduceIte])
  exact hR _ _ ⟨_, rfl, rfl⟩
/-- Fill -/
theorem FillT (len : Nat) (GB : Nat → Nat → D) (B : Nat → Tm) (hl : len ≤ 100000) (hB : ∀ i, i < len → tm (B i) = kid GB i) (hS : ∀ i, i < len → 4 * nodesT (B i) ≤ 4194304) (t : Tm) (hs : 4 * nodesT t ≤ 4194304) :
    VFun (P ()) 14 [tm t, .d (.sl len 5 GB)] (fun r => r = tm (mapT (fFl len B) t 0)) := by
  have hw := mappedG len GB B hl hB hS t hs
  unfold tm at hw ⊢
  obtain ⟨f, hf⟩ : ∃ f, f = tmD t := ⟨_, rfl⟩
  obtain ⟨g, hg⟩ : ∃ g, g = tmD (mapT (fFl len B) t 0) := ⟨_, rfl⟩
  rw [← hf, ← hg] at hw ⊢
  clear hf hg
  refine vfunL (Tf := fun {_} _ => fzT [2] (T ())) (fun {_} => tabOk.frz [2]) [] 400 Tryz.func14 rfl (fun {_} => by kernel_rfl) rfl (Nat.le_of_ble_eq_true rfl) @fun ⟨_, _, _, _, _, _, _, _, _, _, _, _, _, _, _, _, _, _, _, _, _, _, _, _, _, _, _, _, _, _, _, _, _, _, _, _, _, _, wp, wf⟩ R hR => ?_
  cbv
  try simp only [wp, (show ∀ n : Nat, _ = n from fun n => wf.2.2.2.2.2.2.2.2.2.2.2.2.2.1 (Int.ofNat n)), getL, takeL, dropL, TK.isAgg, reduceIte]
  repeat' first | (with_reducible refine And.intro ?_ ?_) | intro c9 | trivial | (refine Later.mk ?_; cbv; try simp only [wp, (show ∀ n : Nat, _ = n from fun n => wf.2.2.2.2.2.2.2.2.2.2.2.2.2.1 (Int.ofNat n)), (show _ = (0 : Nat) from wf.2.2.2.2.2.2.2.2.2.2.2.2.2.1 0), getL, takeL, dropL, TK.isAgg, reduceIte])
  refine CallW.within hw [0] rfl ⟨rfl, trivial⟩ rfl ?_
  rintro _ _ ⟨K2, rfl, rfl⟩
  refine ⟨hpG1 len GB, K2, rfl, Nat.le_refl _, ⟨trivial, trivial⟩, rfl, ?_⟩
  (cbv; try simp only [wp, (show ∀ n : Nat, _ = n from fun n => wf.2.2.2.2.2.2.2.2.2.2.2.2.2.1 (Int.ofNat n)), (show _ = (0 : Nat) from wf.2.2.2.2.2.2.2.2.2.2.2.2.2.1 0), getL, takeL, dropL, TK.isAgg, reduceIte])
  repeat' first | (with_reducible refine And.intro ?_ ?_) | intro c9 | trivial | (refine Later.mk ?_; cbv; try simp only [wp, (show ∀ n : Nat, _ = n from fun n => wf.2.2.2.2.2.2.2.2.2.2.2.2.2.1 (Int.ofNat n)), (show _ = (0 : Nat) from wf.2.2.2.2.2.2.2.2.2.2.2.2.2.1 0), getL, takeL, dropL, TK.isAgg, reduceIte])
  all_goals exact hR _ _ _ (.same5 _ _ _ _ _) rfl
end Go.VM


namespace Go.VM
open Go.Proofs Go
set_option maxRecDepth 100000
set_option linter.unusedVariables false
set_option linter.unusedSimpArgs false
theorem nearW1 (m : Nat) (G : Nat → Nat → D) (o nn : Nat → Int) (F : Nat → Prop) (hm : m < 2 ^ 63) (h0 : ∀ i, i < m → G i 0 = .int .i64 (o i)) (h1 : ∀ i, i < m → G i 1 = .int .i64 (nn i))
    (ih : ∀ i, i < m → VFun (P ()) 18 [.d (G i 4)] (fun r => ∃ b : Bool, (b = true ↔ F i) ∧ r = .d (.bool b))) : VFun (P ()) 18 [.d (.sl m 5 G)] (fun r => ∃ b : Bool, (b = true ↔ ∀ i, i < m → (o i = 1 → nn i ≤ 1000000) ∧ F i) ∧ r = .d (.bool b)) := by
  refine vfunL (Tf := fun {_} _ => fzT [] (T ())) (fun {_} => tabOk.frz []) [] 400 Tryz.func18 rfl (fun {_} => by kernel_rfl) rfl (Nat.le_of_ble_eq_true rfl) @fun ⟨_, _, _, _, _, _, _, _, _, _, _, _, _, _, _, _, _, _, _, _, _, _, _, _, _, _, _, _, _, _, _, _, _, _, _, _, _, _, wp, wf⟩ R hR => ?_
  cbv
  try simp only [wp, (show ∀ n : Nat, _ = n from fun n => wf.2.2.2.2.2.2.2.2.2.2.2.2.2.1 (Int.ofNat n)), getL, takeL, dropL, TK.isAgg, reduceIte]
  replace hR := fun b H h => hR _ H (.d (.bool b)) (.d _) ⟨b, h, rfl⟩
  refine loopL (Tf := fun {_} _ => fzT [] (T ())) (fun {_} => tabOk.frz []) [] 400 (fun i : Nat => ⟨[.d (.sl m 5 G), .undef, .d (.bool false), .d (.int .i64 i), .undef, .undef, .undef, .undef, .undef, .undef, .undef, .undef, .undef, .undef, .undef, .undef, .undef, .undef, .undef, .undef, .undef, .undef, .undef, .undef, .undef, .undef, .undef, .undef, .undef, .undef, .undef, .undef, .undef], []⟩) (fun i => m - i) (fun i => i ≤ m ∧ ∀ j, j < i → (o j = 1 → nn j ≤ 1000000) ∧ F j) 0 ⟨Nat.zero_le _, fun j hj => absurd hj (Nat.not_lt_zero _)⟩ (fun {_} => by kernel_rfl) ?_ (fun i => by kernel_rfl) @fun ⟨_, _, _, _, _, _, _, _, _, _, _, _, _, _, _, _, _, _, _, _, _, _, _, _, _, _, _, _, _, _, _, _, _, _, _, _, _, _, wpa, wfa⟩ i Bk hi hBk => ?_
  · ((cbv; try simp only [wf, exD, exL, exT, exB, exA, leLs, leL_d, leL_undef, leL_nils, leA_nils, deq_refl, deq_int, deq_bool, deq_str, and_true, true_and, AObj.iter.injEq, nc, nc']; try simp (disch := omega) only [w64, w32, wu8]); first | done | rfl | omega | (simp; done) | (simp; omega) | skip)
  obtain ⟨i1, i2⟩ := hi
  (cbv; try simp only [wp, (show ∀ n : Nat, _ = n from fun n => wf.2.2.2.2.2.2.2.2.2.2.2.2.2.1 (Int.ofNat n)), (show _ = (0 : Nat) from wf.2.2.2.2.2.2.2.2.2.2.2.2.2.1 0), wpa, (show ∀ n : Nat, _ = n from fun n => wfa.2.2.2.2.2.2.2.2.2.2.2.2.2.1 (Int.ofNat n)), (show _ = (0 : Nat) from wfa.2.2.2.2.2.2.2.2.2.2.2.2.2.1 0), getL, takeL, dropL, TK.isAgg, reduceIte])
  refine ⟨fun e => ?_, fun e => ?_⟩
  · have e : i < m := (by (try simp only [wf, wfa, nc, nc', Int.toNat_natCast, bsz, ByteArray.size_append, List.length_cons, List.length_nil] at *); (try simp (disch := omega) only [w64, w32, wu8] at *); first | done | omega)
    have hi := ih i e
    have g0 := h0 i e
    have g1 := h1 i e
    (refine Later.mk ?_; cbv; try simp only [wp, (show ∀ n : Nat, _ = n from fun n => wf.2.2.2.2.2.2.2.2.2.2.2.2.2.1 (Int.ofNat n)), (show _ = (0 : Nat) from wf.2.2.2.2.2.2.2.2.2.2.2.2.2.1 0), wpa, (show ∀ n : Nat, _ = n from fun n => wfa.2.2.2.2.2.2.2.2.2.2.2.2.2.1 (Int.ofNat n)), (show _ = (0 : Nat) from wfa.2.2.2.2.2.2.2.2.2.2.2.2.2.1 0), getL, takeL, dropL, TK.isAgg, reduceIte])
    repeat' first | (with_reducible refine And.intro ?_ ?_) | intro c9 | trivial | (refine Later.mk ?_; cbv; try simp only [wp, (show ∀ n : Nat, _ = n from fun n => wf.2.2.2.2.2.2.2.2.2.2.2.2.2.1 (Int.ofNat n)), (show _ = (0 : Nat) from wf.2.2.2.2.2.2.2.2.2.2.2.2.2.1 0), wpa, (show ∀ n : Nat, _ = n from fun n => wfa.2.2.2.2.2.2.2.2.2.2.2.2.2.1 (Int.ofNat n)), (show _ = (0 : Nat) from wfa.2.2.2.2.2.2.2.2.2.2.2.2.2.1 0), getL, takeL, dropL, TK.isAgg, reduceIte]) | (rw [g0]; (cbv; try simp only [wp, (show ∀ n : Nat, _ = n from fun n => wf.2.2.2.2.2.2.2.2.2.2.2.2.2.1 (Int.ofNat n)), (show _ = (0 : Nat) from wf.2.2.2.2.2.2.2.2.2.2.2.2.2.1 0), wpa, (show ∀ n : Nat, _ = n from fun n => wfa.2.2.2.2.2.2.2.2.2.2.2.2.2.1 (Int.ofNat n)), (show _ = (0 : Nat) from wfa.2.2.2.2.2.2.2.2.2.2.2.2.2.1 0), getL, takeL, dropL, TK.isAgg, reduceIte])) | (rw [g1]; (cbv; try simp only [wp, (show ∀ n : Nat, _ = n from fun n => wf.2.2.2.2.2.2.2.2.2.2.2.2.2.1 (Int.ofNat n)), (show _ = (0 : Nat) from wf.2.2.2.2.2.2.2.2.2.2.2.2.2.1 0), wpa, (show ∀ n : Nat, _ = n from fun n => wfa.2.2.2.2.2.2.2.2.2.2.2.2.2.1 (Int.ofNat n)), (show _ = (0 : Nat) from wfa.2.2.2.2.2.2.2.2.2.2.2.2.2.1 0), getL, takeL, dropL, TK.isAgg, reduceIte])) | (refine hi.call ?_; rintro _ ⟨b, hb, rfl⟩; cases b <;> (cbv; try simp only [wp, (show ∀ n : Nat, _ = n from fun n => wf.2.2.2.2.2.2.2.2.2.2.2.2.2.1 (Int.ofNat n)), (show _ = (0 : Nat) from wf.2.2.2.2.2.2.2.2.2.2.2.2.2.1 0), wpa, (show ∀ n : Nat, _ = n from fun n => wfa.2.2.2.2.2.2.2.2.2.2.2.2.2.1 (Int.ofNat n)), (show _ = (0 : Nat) from wfa.2.2.2.2.2.2.2.2.2.2.2.2.2.1 0), getL, takeL, dropL, TK.isAgg, reduceIte]))
    all_goals first
      | exact Nat.zero_le _
      | exact (by (try simp only [wf, wfa, nc, nc', Int.toNat_natCast, bsz, ByteArray.size_append, List.length_cons, List.length_nil] at *); (try simp (disch := omega) only [w64, w32, wu8] at *); first | done | omega)
      | (refine hBk (i + 1) _ (by omega) ⟨by omega, fun j hj => ?_⟩ ?_
         · by_cases ej : j = i
           · subst ej; exact ⟨by clear hBk hR; intro h; exact (by (try simp only [wf, wfa, nc, nc', Int.toNat_natCast, bsz, ByteArray.size_append, List.length_cons, List.length_nil] at *); (try simp (disch := omega) only [w64, w32, wu8] at *); first | done | omega), hb.1 rfl⟩
           · exact i2 j (by omega)
         · ((cbv; try simp only [wf, wfa, exD, exL, exT, exB, exA, leLs, leL_d, leL_undef, leL_nils, leA_nils, deq_refl, deq_int, deq_bool, deq_str, and_true, true_and, AObj.iter.injEq, nc, nc']; try simp (disch := omega) only [w64, w32, wu8]); first | done | rfl | omega | (simp; done) | (simp; omega) | skip))
      | exact hR false _ (iffF fun h => by have h2 := (h i e).2; exact absurd (hb.2 h2) (by simp))
      | exact hR false _ (iffF fun h => by have h2 := (h i e).1; clear hR hBk; exact absurd (h2 (by (try simp only [wf, wfa, nc, nc', Int.toNat_natCast, bsz, ByteArray.size_append, List.length_cons, List.length_nil] at *); (try simp (disch := omega) only [w64, w32, wu8] at *); first | done | omega)) (by (try simp only [wf, wfa, nc, nc', Int.toNat_natCast, bsz, ByteArray.size_append, List.length_cons, List.length_nil] at *); (try simp (disch := omega) only [w64, w32, wu8] at *); first | done | omega))
  · obtain rfl : i = m := (by (try simp only [wf, wfa, nc, nc', Int.toNat_natCast, bsz, ByteArray.size_append, List.length_cons, List.length_nil] at *); (try simp (disch := omega) only [w64, w32, wu8] at *); first | done | omega)
    (refine Later.mk ?_; cbv; try simp only [wp, (show ∀ n : Nat, _ = n from fun n => wf.2.2.2.2.2.2.2.2.2.2.2.2.2.1 (Int.ofNat n)), (show _ = (0 : Nat) from wf.2.2.2.2.2.2.2.2.2.2.2.2.2.1 0), wpa, (show ∀ n : Nat, _ = n from fun n => wfa.2.2.2.2.2.2.2.2.2.2.2.2.2.1 (Int.ofNat n)), (show _ = (0 : Nat) from wfa.2.2.2.2.2.2.2.2.2.2.2.2.2.1 0), getL, takeL, dropL, TK.isAgg, reduceIte])
    exact hR true _ (iffT i2)
theorem nearLW (t : Tm) : VFun (P ()) 18 [.d (tmD t 4)] (fun r => ∃ b : Bool, (b = true ↔ NearL t) ∧ r = .d (.bool b)) := by
  refine Tm.walk (P := fun t => VFun (P ()) 18 [.d (tmD t 4)] (fun r => ∃ b : Bool, (b = true ↔ NearL t) ∧ r = .d (.bool b))) ?_ t
  intro op n s k C N W Q m ok K G hG e ih
  have e4 : tmD (.nd op n s k C N W Q m ok K) 4 = .sl m 5 G := by
    unfold tm at e
    injection e with e
    simp only [List.cons.injEq, A.d.injEq] at e
    exact e.2.2.2.2.1
  have g : ∀ i, i < m → G i 0 = tmD (K i) 0 ∧ G i 1 = tmD (K i) 1 ∧ G i 4 = tmD (K i) 4 := fun i hi => by
    have := hG i hi
    unfold tm kid at this
    injection this with this
    simp only [List.cons.injEq, A.d.injEq] at this
    exact ⟨this.1.symm, this.2.1.symm, this.2.2.2.2.1.symm⟩
  rw [e4]
  refine (nearW1 m G (fun i => opT (K i)) (fun i => numT (K i)) (fun i => NearL (K i)) ok.m (fun i hi => by rw [(g i hi).1, (tmD_01 (K i)).1]) (fun i hi => by rw [(g i hi).2.1, (tmD_01 (K i)).2]) (fun i hi => by rw [(g i hi).2.2]; exact ih i hi)).mono ?_
  rintro _ ⟨b, hb, rfl⟩
  refine ⟨b, hb.trans ?_, rfl⟩
  have : NearL (.nd op n s k C N W Q m ok K) ↔ ∀ i, i < m → NearT 1000000 (K i) := by
    have e : NearL (.nd op n s k C N W Q m ok K) ↔ ∀ i : Fin m, NearT 1000000 (K i) := by simp only [Tm.nd, NearL]
    rw [e]
    exact ⟨fun h i hi => h ⟨i, hi⟩, fun h i => h i i.2⟩
  rw [this]
  exact ⟨fun h i hi => (NearT_L _).2 (h i hi), fun h i hi => (NearT_L _).1 (h i hi)⟩
/-- a list of terms -/
theorem nearW (m : Nat) (G : Nat → Nat → D) (K : Nat → Tm) (hm : m < 2 ^ 63) (hG : ∀ i, i < m → tm (K i) = kid G i) : VFun (P ()) 18 [.d (.sl m 5 G)] (fun r => ∃ b : Bool, (b = true ↔ ∀ i, i < m → NearT 1000000 (K i)) ∧ r = .d (.bool b)) := by
  have g : ∀ i, i < m → G i 0 = tmD (K i) 0 ∧ G i 1 = tmD (K i) 1 ∧ G i 4 = tmD (K i) 4 := fun i hi => by
    have := hG i hi
    unfold tm kid at this
    injection this with this
    simp only [List.cons.injEq, A.d.injEq] at this
    exact ⟨this.1.symm, this.2.1.symm, this.2.2.2.2.1.symm⟩
  refine (nearW1 m G (fun i => opT (K i)) (fun i => numT (K i)) (fun i => NearL (K i)) hm (fun i hi => by rw [(g i hi).1, (tmD_01 (K i)).1]) (fun i hi => by rw [(g i hi).2.1, (tmD_01 (K i)).2]) (fun i hi => by rw [(g i hi).2.2]; exact nearLW (K i))).mono ?_
  rintro _ ⟨b, hb, rfl⟩
  exact ⟨b, hb.trans ⟨fun h i hi => (NearT_L _).2 (h i hi), fun h i hi => (NearT_L _).1 (h i hi)⟩, rfl⟩
/-- comparing terms of up to a million nodes -/
theorem EqTermB (t : Tm) : nodesT t ≤ 1000000 → VFun (P ()) 15 [tm t, tm t] (fun r => r = .d (.bool true)) := by
  refine Tm.walk (P := fun t => nodesT t ≤ 1000000 → VFun (P ()) 15 [tm t, tm t] (fun r => r = .d (.bool true))) ?_ t
  clear t
  intro op n s k C N W Q m ok K G hG e ih hs
  rw [nodesT_nd] at hs
  have b1 := sumF_ge (f := fun i => 1 + N i) (fun i => by omega) k
  have b2 := sumF_ge (f := fun i => nodesT (K i)) (fun i => nodesT_pos _) m
  have b3 : ∀ i, i < k → N i < 2 ^ 20 := fun i hi => by have := sumF_one (f := fun i => 1 + N i) hi; omega
  have b4 : ∀ i, i < m → nodesT (K i) ≤ 1000000 := fun i hi => by have := sumF_one (f := fun i => nodesT (K i)) hi; omega
  rw [e]
  have hc := EqLevels k C N W Q (by omega) b3
  have ht := EqTerms m G (by omega) (fun i hi => by have := ih i hi (b4 i hi); rwa [hG i hi] at this)
  clear e hs b1 b2 b3 b4 ih hG
  refine vfunL (Tf := fun {_} _ => fzT [2, 3] (T ())) (fun {_} => tabOk.frz [2, 3]) [] 400 Tryz.func15 rfl (fun {_} => by kernel_rfl) rfl (Nat.le_of_ble_eq_true rfl) @fun ⟨_, _, _, _, _, _, _, _, _, _, _, _, _, _, _, _, _, _, _, _, _, _, _, _, _, _, _, _, _, _, _, _, _, _, _, _, _, _, wp, wf⟩ R hR => ?_
  cbv
  try simp only [wp, (show ∀ n : Nat, _ = n from fun n => wf.2.2.2.2.2.2.2.2.2.2.2.2.2.1 (Int.ofNat n)), getL, takeL, dropL, TK.isAgg, reduceIte]
  replace hR := fun H => hR (.d (.bool true)) H _ (.d (.bool true)) rfl
  repeat' first | (with_reducible refine And.intro ?_ ?_) | intro c9 | (exfalso; exact absurd rfl c9) | trivial | (refine Later.mk ?_; cbv; try simp only [wp, (show ∀ n : Nat, _ = n from fun n => wf.2.2.2.2.2.2.2.2.2.2.2.2.2.1 (Int.ofNat n)), (show _ = (0 : Nat) from wf.2.2.2.2.2.2.2.2.2.2.2.2.2.1 0), getL, takeL, dropL, TK.isAgg, reduceIte])
  refine hc.call ?_
  rintro _ rfl
  (cbv; try simp only [wp, (show ∀ n : Nat, _ = n from fun n => wf.2.2.2.2.2.2.2.2.2.2.2.2.2.1 (Int.ofNat n)), (show _ = (0 : Nat) from wf.2.2.2.2.2.2.2.2.2.2.2.2.2.1 0), getL, takeL, dropL, TK.isAgg, reduceIte])
  repeat' first | (with_reducible refine And.intro ?_ ?_) | intro c9 | (exfalso; exact absurd rfl c9) | trivial | (refine Later.mk ?_; cbv; try simp only [wp, (show ∀ n : Nat, _ = n from fun n => wf.2.2.2.2.2.2.2.2.2.2.2.2.2.1 (Int.ofNat n)), (show _ = (0 : Nat) from wf.2.2.2.2.2.2.2.2.2.2.2.2.2.1 0), getL, takeL, dropL, TK.isAgg, reduceIte])
  refine ht.call ?_
  rintro _ rfl
  (cbv; try simp only [wp, (show ∀ n : Nat, _ = n from fun n => wf.2.2.2.2.2.2.2.2.2.2.2.2.2.1 (Int.ofNat n)), (show _ = (0 : Nat) from wf.2.2.2.2.2.2.2.2.2.2.2.2.2.1 0), getL, takeL, dropL, TK.isAgg, reduceIte])
  repeat' first | (with_reducible refine And.intro ?_ ?_) | intro c9 | (exfalso; exact absurd rfl c9) | trivial | (refine Later.mk ?_; cbv; try simp only [wp, (show ∀ n : Nat, _ = n from fun n => wf.2.2.2.2.2.2.2.2.2.2.2.2.2.1 (Int.ofNat n)), (show _ = (0 : Nat) from wf.2.2.2.2.2.2.2.2.2.2.2.2.2.1 0), getL, takeL, dropL, TK.isAgg, reduceIte])
  all_goals exact hR _
/-- how great a filled term is -/
theorem nodesT_fl (len b : Nat) (hb : 1 ≤ b) (B : Nat → Tm) (hB : ∀ i, i < len → nodesT (B i) ≤ b) (t : Tm) : ∀ d, nodesT (mapT (fFl len B) t d) ≤ nodesT t * b := by
  refine Tm.walk (P := fun t => ∀ d, nodesT (mapT (fFl len B) t d) ≤ nodesT t * b) ?_ t
  intro op n s k C N W Q m ok K G _ _ ih d
  have hmul : ∀ f : Nat → Nat, ∀ m, sumF (fun i => f i * b) m = sumF f m * b := fun f m => by
    induction m with
    | zero => simp [sumF]
    | succ m h => simp only [sumF]; rw [h, Nat.add_mul]
  have hk : 1 + sumF (fun i => 1 + N i) k + sumF (fun i => nodesT (mapT (fFl len B) (K i) (d + bindI op m i))) m ≤ nodesT (.nd op n s k C N W Q m ok K) * b := by
    rw [nodesT_nd]
    have h1 := sumF_mono (f := fun i => nodesT (mapT (fFl len B) (K i) (d + bindI op m i))) (g := fun i => nodesT (K i) * b) (n := m) fun i hi => ih i hi _
    rw [hmul (fun i => nodesT (K i))] at h1
    have h2 : 1 + sumF (fun i => 1 + N i) k ≤ (1 + sumF (fun i => 1 + N i) k) * b := Nat.le_mul_of_pos_right _ hb
    rw [Nat.add_mul (1 + sumF (fun i => 1 + N i) k)]
    omega
  by_cases hv : IsV op n
  · by_cases h0 : n - d < 0
    · rw [fl_out len B d (fun _ => h0), nodesT_nd]; exact hk
    · by_cases h1 : n - d < len
      · rw [fl_in len B d hv (by omega) h1, nodesT_sh]
        have h2 := hB (n - d).toNat (by omega)
        have h3 := nodesT_pos (.nd op n s k C N W Q m ok K)
        exact Nat.le_trans h2 (Nat.le_mul_of_pos_left _ h3)
      · rw [mapT_nd, if_pos hv]
        unfold fFl
        rw [numT_nd, if_neg h0, if_neg h1, setN_nd, nodesT_nd]; exact hk
  · rw [fl_out len B d (fun h => absurd h hv), nodesT_nd]; exact hk
end Go.VM

namespace Go.VM
open Go.Proofs Go
set_option maxRecDepth 100000
set_option linter.unusedVariables false
set_option linter.unusedSimpArgs false
theorem upR (d : Int) (t : Tm) (hs : 4 * nodesT t ≤ 4194304) (hd : 0 ≤ d ∧ d ≤ 4194304) : VFun (P ()) 67 [tm t, .d (.int .i64 d), .d (.int .i64 0)] (fun r => r = tm (mapT (fSh d 0) t 0)) := by
  have hw : VFun (P ()) 123 [tm t, .d (.int .i64 d), .d (.int .i64 0)] (fun r => r = .tup [tm (mapT (fSh d 0) t 0), .d (.bool true)]) := (RShift 0 d t hs).mono fun r h => by
    obtain ⟨x, b, q1, q2, _, rfl⟩ := h
    obtain rfl := q1.2 ⟨⟨by decide, by decide, by omega, by omega⟩, OkT_up hd.1 0 _ 0⟩
    rw [q2 rfl]
  unfold tm at hw ⊢
  obtain ⟨f, hf⟩ : ∃ f, f = tmD t := ⟨_, rfl⟩
  obtain ⟨g, hg⟩ : ∃ g, g = tmD (mapT (fSh d 0) t 0) := ⟨_, rfl⟩
  rw [← hf, ← hg] at hw ⊢
  clear hf hg
  refine vfunL (Tf := fun {_} _ => fzT [3] (T ())) (fun {_} => tabOk.frz [3]) [] 400 Tryz.func67 rfl (fun {_} => by kernel_rfl) rfl (Nat.le_of_ble_eq_true rfl) @fun ⟨_, _, _, _, _, _, _, _, _, _, _, _, _, _, _, _, _, _, _, _, _, _, _, _, _, _, _, _, _, _, _, _, _, _, _, _, _, _, wp, wf⟩ R hR => ?_
  cbv
  try simp only [wp, (show ∀ n : Nat, _ = n from fun n => wf.2.2.2.2.2.2.2.2.2.2.2.2.2.1 (Int.ofNat n)), getL, takeL, dropL, TK.isAgg, reduceIte]
  repeat' first | (with_reducible refine And.intro ?_ ?_) | intro c9 | trivial | (refine Later.mk ?_; cbv; try simp only [wp, (show ∀ n : Nat, _ = n from fun n => wf.2.2.2.2.2.2.2.2.2.2.2.2.2.1 (Int.ofNat n)), (show _ = (0 : Nat) from wf.2.2.2.2.2.2.2.2.2.2.2.2.2.1 0), getL, takeL, dropL, TK.isAgg, reduceIte])
  refine hw.call ?_
  rintro _ rfl
  (cbv; try simp only [wp, (show ∀ n : Nat, _ = n from fun n => wf.2.2.2.2.2.2.2.2.2.2.2.2.2.1 (Int.ofNat n)), (show _ = (0 : Nat) from wf.2.2.2.2.2.2.2.2.2.2.2.2.2.1 0), getL, takeL, dropL, TK.isAgg, reduceIte])
  repeat' first | (with_reducible refine And.intro ?_ ?_) | intro c9 | trivial | (refine Later.mk ?_; cbv; try simp only [wp, (show ∀ n : Nat, _ = n from fun n => wf.2.2.2.2.2.2.2.2.2.2.2.2.2.1 (Int.ofNat n)), (show _ = (0 : Nat) from wf.2.2.2.2.2.2.2.2.2.2.2.2.2.1 0), getL, takeL, dropL, TK.isAgg, reduceIte])
  all_goals exact hR _ _ _ (.same5 _ _ _ _ _) rfl
def RFl (len : Nat) (GB : Nat → Nat → D) (B : Nat → Tm) (t : Tm) : Prop := ∀ (d : Int), 0 ≤ d → d + 4 * nodesT t ≤ 4194304 → VFun (P ()) 37 [tm t, .d (.sl len 5 GB), .d (.int .i64 d)] (fun r => r = tm (mapT (fFl len B) t d))
section
variable (len : Nat) (GB : Nat → Nat → D) (B : Nat → Tm)
set_option maxHeartbeats 4000000 in
theorem rflA (hl : len ≤ 100000) (hB : ∀ i, i < len → tm (B i) = kid GB i) (hS : ∀ i, i < len → 4 * nodesT (B i) ≤ 4194304) (op n : Int) (s : ByteArray) (k : Nat) (C : Nat → Int) (N : Nat → Nat) (W Q : Nat → Nat → Int) (m : Nat) (ok : TmOk op n s k N m) (K : Nat → Tm) (G : Nat → Nat → D) (hG : ∀ i, i < m → tm (K i) = kid G i)
    (e : tm (.nd op n s k C N W Q m ok K) = tml op n s k C N W Q m G) (ih : ∀ i, i < m → RFl len GB B (K i)) (d : Int) (hd : 0 ≤ d) (hs : d + 4 * nodesT (.nd op n s k C N W Q m ok K) ≤ 4194304) (hv1 : IsV op n) (h0 : 0 ≤ n - d) (h1 : n - d < len) : VFun (P ()) 37 [tm (.nd op n s k C N W Q m ok K), .d (.sl len 5 GB), .d (.int .i64 d)] (fun r => r = tm (mapT (fFl len B) (.nd op n s k C N W Q m ok K) d)) := by
  rw [nodesT_nd] at hs
  have b1 := sumF_ge (f := fun i => 1 + N i) (fun i => by omega) k
  have b2 := sumF_ge (f := fun i => nodesT (K i)) (fun i => nodesT_pos _) m
  have b3 : ∀ i, i < k → N i ≤ 1048575 := fun i hi => by have := sumF_one (f := fun i => 1 + N i) hi; omega
  have b4 : ∀ i, i < m → d + 3 + 4 * nodesT (K i) ≤ 4194304 := fun i hi => by have := sumF_one (f := fun i => nodesT (K i)) hi; omega
  have b6 : d ≤ 4194304 := by omega
  have b5 : k ≤ 4194304 ∧ m ≤ 4194304 := ⟨by omega, by omega⟩
  have hc := withR op n s k C N W Q m G (by omega) (fun i hi => by have := b3 i hi; omega)
  have hbd := fun i => bindsR op n s k C N W Q m G i (by omega)
  have hv := variableR op n s k C N W Q m G
  rw [e, fl_in len B d hv1 h0 h1]
  have hu := upR d (B (n - d).toNat) (hS _ (by omega)) ⟨hd, b6⟩
  rw [hB _ (by omega)] at hu
  obtain ⟨q, hq⟩ : ∃ q, q = mapT (fSh d 0) (B (n - d).toNat) 0 := ⟨_, rfl⟩
  rw [← hq] at hu ⊢
  obtain ⟨fq, eq⟩ : ∃ fq : Nat → D, tm q = .agg [.d (fq 0), .d (fq 1), .d (fq 2), .d (fq 3), .d (fq 4)] := ⟨tmD q, rfl⟩
  rw [eq] at hu ⊢
  have v2 := hv1.2
  clear ih e hG hq eq b1 b2 b3 b4 hs hB hS
  refine vfunL (Tf := fun {_} _ => fzT [3] (T ())) (fun {_} => tabOk.frz [3]) [] 400 Tryz.func37 rfl (fun {_} => by kernel_rfl) rfl (Nat.le_of_ble_eq_true rfl) @fun ⟨_, _, _, _, _, _, _, _, _, _, _, _, _, _, _, _, _, _, _, _, _, _, _, _, _, _, _, _, _, _, _, _, _, _, _, _, _, _, wp, wf⟩ R hR => ?_
  cbv
  try simp only [wp, (show ∀ n : Nat, _ = n from fun n => wf.2.2.2.2.2.2.2.2.2.2.2.2.2.1 (Int.ofNat n)), getL, takeL, dropL, TK.isAgg, reduceIte]
  repeat' first | (with_reducible refine And.intro ?_ ?_) | intro c9 | trivial | (refine Later.mk ?_; cbv; try simp only [wp, (show ∀ n : Nat, _ = n from fun n => wf.2.2.2.2.2.2.2.2.2.2.2.2.2.1 (Int.ofNat n)), (show _ = (0 : Nat) from wf.2.2.2.2.2.2.2.2.2.2.2.2.2.1 0), getL, takeL, dropL, TK.isAgg, reduceIte])
  refine hv.call ?_
  rintro _ ⟨b, hb, rfl⟩
  obtain rfl := hb.2 hv1
  (cbv; try simp only [wp, (show ∀ n : Nat, _ = n from fun n => wf.2.2.2.2.2.2.2.2.2.2.2.2.2.1 (Int.ofNat n)), (show _ = (0 : Nat) from wf.2.2.2.2.2.2.2.2.2.2.2.2.2.1 0), getL, takeL, dropL, TK.isAgg, reduceIte])
  repeat' first | (with_reducible refine And.intro ?_ ?_) | intro c9 | trivial | (refine Later.mk ?_; cbv; try simp only [wp, (show ∀ n : Nat, _ = n from fun n => wf.2.2.2.2.2.2.2.2.2.2.2.2.2.1 (Int.ofNat n)), (show _ = (0 : Nat) from wf.2.2.2.2.2.2.2.2.2.2.2.2.2.1 0), getL, takeL, dropL, TK.isAgg, reduceIte])
  all_goals first
    | (exfalso; clear hR; ((try simp only [wf, nc, nc', Int.toNat_natCast, bsz, ByteArray.size_append, List.length_cons, List.length_nil] at *); (try simp (disch := omega) only [w64, w32, wu8] at *)); omega)
    | (clear hR; exact (by (try simp only [wf, nc, nc', Int.toNat_natCast, bsz, ByteArray.size_append, List.length_cons, List.length_nil] at *); (try simp (disch := omega) only [w64, w32, wu8] at *); first | done | omega))
    | skip
  all_goals
    refine CallW.args (args' := [kid GB (n - d).toNat, .d (.int .i64 d), .d (.int .i64 0)]) (fun {_ _} => ⟨⟨_, rfl, .of_eq (by clear hR; ((try simp only [wf, nc, nc', Int.toNat_natCast, bsz, ByteArray.size_append, List.length_cons, List.length_nil] at *); (try simp (disch := omega) only [w64, w32, wu8] at *))), .of_eq (by clear hR; ((try simp only [wf, nc, nc', Int.toNat_natCast, bsz, ByteArray.size_append, List.length_cons, List.length_nil] at *); (try simp (disch := omega) only [w64, w32, wu8] at *))), .of_eq (by clear hR; ((try simp only [wf, nc, nc', Int.toNat_natCast, bsz, ByteArray.size_append, List.length_cons, List.length_nil] at *); (try simp (disch := omega) only [w64, w32, wu8] at *))), .of_eq (by clear hR; ((try simp only [wf, nc, nc', Int.toNat_natCast, bsz, ByteArray.size_append, List.length_cons, List.length_nil] at *); (try simp (disch := omega) only [w64, w32, wu8] at *))), .of_eq (by clear hR; ((try simp only [wf, nc, nc', Int.toNat_natCast, bsz, ByteArray.size_append, List.length_cons, List.length_nil] at *); (try simp (disch := omega) only [w64, w32, wu8] at *))), trivial⟩, .refl _, .refl _, trivial⟩) ?_
    refine hu.call ?_
    rintro _ rfl
    (cbv; try simp only [wp, (show ∀ n : Nat, _ = n from fun n => wf.2.2.2.2.2.2.2.2.2.2.2.2.2.1 (Int.ofNat n)), (show _ = (0 : Nat) from wf.2.2.2.2.2.2.2.2.2.2.2.2.2.1 0), getL, takeL, dropL, TK.isAgg, reduceIte])
    repeat' first | (with_reducible refine And.intro ?_ ?_) | intro c9 | trivial | (refine Later.mk ?_; cbv; try simp only [wp, (show ∀ n : Nat, _ = n from fun n => wf.2.2.2.2.2.2.2.2.2.2.2.2.2.1 (Int.ofNat n)), (show _ = (0 : Nat) from wf.2.2.2.2.2.2.2.2.2.2.2.2.2.1 0), getL, takeL, dropL, TK.isAgg, reduceIte])
  all_goals exact hR _ _ _ (.same5 _ _ _ _ _) rfl
set_option maxHeartbeats 4000000 in
theorem rflC (hl : len ≤ 100000) (hB : ∀ i, i < len → tm (B i) = kid GB i) (hS : ∀ i, i < len → 4 * nodesT (B i) ≤ 4194304) (op n : Int) (s : ByteArray) (k : Nat) (C : Nat → Int) (N : Nat → Nat) (W Q : Nat → Nat → Int) (m : Nat) (ok : TmOk op n s k N m) (K : Nat → Tm) (G : Nat → Nat → D) (hG : ∀ i, i < m → tm (K i) = kid G i)
    (e : tm (.nd op n s k C N W Q m ok K) = tml op n s k C N W Q m G) (ih : ∀ i, i < m → RFl len GB B (K i)) (d : Int) (hd : 0 ≤ d) (hs : d + 4 * nodesT (.nd op n s k C N W Q m ok K) ≤ 4194304) (hv1 : IsV op n → n - d < 0) : VFun (P ()) 37 [tm (.nd op n s k C N W Q m ok K), .d (.sl len 5 GB), .d (.int .i64 d)] (fun r => r = tm (mapT (fFl len B) (.nd op n s k C N W Q m ok K) d)) := by
  rw [nodesT_nd] at hs
  have b1 := sumF_ge (f := fun i => 1 + N i) (fun i => by omega) k
  have b2 := sumF_ge (f := fun i => nodesT (K i)) (fun i => nodesT_pos _) m
  have b3 : ∀ i, i < k → N i ≤ 1048575 := fun i hi => by have := sumF_one (f := fun i => 1 + N i) hi; omega
  have b4 : ∀ i, i < m → d + 3 + 4 * nodesT (K i) ≤ 4194304 := fun i hi => by have := sumF_one (f := fun i => nodesT (K i)) hi; omega
  have b6 : d ≤ 4194304 := by omega
  have b5 : k ≤ 4194304 ∧ m ≤ 4194304 := ⟨by omega, by omega⟩
  have hc := withR op n s k C N W Q m G (by omega) (fun i hi => by have := b3 i hi; omega)
  have hbd := fun i => bindsR op n s k C N W Q m G i (by omega)
  have hv := variableR op n s k C N W Q m G
  obtain ⟨G', hG', e'⟩ := tm_rows (op := op) (n := n) (s := s) (k := k) (C := C) (N := N) (W := W) (Q := Q) (m := m) (ok := ok) fun i => mapT (fFl len B) (K i) (d + bindI op m i)
  have ih' : ∀ i, i < m → ∀ (d' : Int), d' = d + bindI op m i → VFun (P ()) 37 [kid G i, .d (.sl len 5 GB), .d (.int .i64 d')] (fun r => r = kid G' i) := fun i hi d' hd' => by
    have hb := bindI_le op m i
    have := ih i hi d' (by omega) (by have := b4 i hi; omega)
    rw [hG i hi, hd', hG' i hi] at this
    rw [hd']
    exact this
  rw [e, fl_out len B d hv1, e']
  obtain ⟨nn, hnn⟩ : ∃ nn, nn = n := ⟨_, rfl⟩
  have ev : IsV op n → 0 ≤ n ∧ n ≤ 2147483648 := fun v => v.2
  clear ih e e' hG hG' b1 b2 b3 b4 hs hB hS
  refine vfunL (Tf := fun {_} _ => fzT [3] (T ())) (fun {_} => tabOk.frz [3]) [] 400 Tryz.func37 rfl (fun {_} => by kernel_rfl) rfl (Nat.le_of_ble_eq_true rfl) @fun ⟨_, _, _, _, _, _, _, _, _, _, _, _, _, _, _, _, _, _, _, _, _, _, _, _, _, _, _, _, _, _, _, _, _, _, _, _, _, _, wp, wf⟩ R hR => ?_
  cbv
  try simp only [wp, (show ∀ n : Nat, _ = n from fun n => wf.2.2.2.2.2.2.2.2.2.2.2.2.2.1 (Int.ofNat n)), getL, takeL, dropL, TK.isAgg, reduceIte]
  repeat' first | (with_reducible refine And.intro ?_ ?_) | intro c9 | trivial | (refine Later.mk ?_; cbv; try simp only [wp, (show ∀ n : Nat, _ = n from fun n => wf.2.2.2.2.2.2.2.2.2.2.2.2.2.1 (Int.ofNat n)), (show _ = (0 : Nat) from wf.2.2.2.2.2.2.2.2.2.2.2.2.2.1 0), getL, takeL, dropL, TK.isAgg, reduceIte])
  refine hv.call ?_
  rintro _ ⟨b, hb, rfl⟩
  rcases hb.dich with ⟨rfl, v⟩ | ⟨rfl, v⟩ <;> clear hb <;> (cbv; try simp only [wp, (show ∀ n : Nat, _ = n from fun n => wf.2.2.2.2.2.2.2.2.2.2.2.2.2.1 (Int.ofNat n)), (show _ = (0 : Nat) from wf.2.2.2.2.2.2.2.2.2.2.2.2.2.1 0), getL, takeL, dropL, TK.isAgg, reduceIte])
  all_goals repeat' first | (with_reducible refine And.intro ?_ ?_) | intro c9 | trivial | (refine Later.mk ?_; cbv; try simp only [wp, (show ∀ n : Nat, _ = n from fun n => wf.2.2.2.2.2.2.2.2.2.2.2.2.2.1 (Int.ofNat n)), (show _ = (0 : Nat) from wf.2.2.2.2.2.2.2.2.2.2.2.2.2.1 0), getL, takeL, dropL, TK.isAgg, reduceIte])
  all_goals first
    | (exfalso; have h7 := hv1 v; have h8 := ev v; clear hR; ((try simp only [wf, nc, nc', Int.toNat_natCast, bsz, ByteArray.size_append, List.length_cons, List.length_nil] at *); (try simp (disch := omega) only [w64, w32, wu8] at *)); omega)
    | skip
  all_goals
    refine hc.call ?_
    rintro _ rfl
    (cbv; try simp only [wp, (show ∀ n : Nat, _ = n from fun n => wf.2.2.2.2.2.2.2.2.2.2.2.2.2.1 (Int.ofNat n)), (show _ = (0 : Nat) from wf.2.2.2.2.2.2.2.2.2.2.2.2.2.1 0), getL, takeL, dropL, TK.isAgg, reduceIte])
    repeat' first | (with_reducible refine And.intro ?_ ?_) | intro c9 | trivial | (refine Later.mk ?_; cbv; try simp only [wp, (show ∀ n : Nat, _ = n from fun n => wf.2.2.2.2.2.2.2.2.2.2.2.2.2.1 (Int.ofNat n)), (show _ = (0 : Nat) from wf.2.2.2.2.2.2.2.2.2.2.2.2.2.1 0), getL, takeL, dropL, TK.isAgg, reduceIte])
  all_goals
    refine loopL (Tf := fun {_} _ => fzT [3] (T ())) (fun {_} => tabOk.frz [3]) [] 400 (fun y : Nat => match y with
        | 0 => ⟨[.undef, .d (.sl len 5 GB), .d (.int .i64 d), .iptr (fun x j => getL [.int .i64 op, .int .i64 n, .str s, .sl k 2 (lsF C N W Q), .sl m 5 G] j .nilp) 0 0 5, .undef, .undef, .ptr 0 0, .undef, .undef, .ptr 1 0, .d (.int .i64 0), .undef, .undef, .undef, .undef, .undef, .undef, .undef, .undef, .undef, .undef, .undef, .undef, .undef, .undef, .undef, .undef, .undef, .undef, .undef, .undef, .undef, .undef, .undef, .undef, .undef, .undef, .undef, .undef, .undef, .undef, .undef, .undef, .undef, .undef, .undef, .undef, .undef, .undef, .undef, .undef, .undef, .undef, .undef, .undef, .undef, .undef, .undef, .undef, .undef, .undef, .undef, .undef, .undef, .undef, .undef, .undef, .undef, .undef, .undef, .undef, .undef, .undef, .undef, .undef, .undef, .undef, .undef, .undef, .undef, .undef, .undef, .undef, .undef, .undef, .undef, .undef, .undef, .undef, .undef, .undef], [.box [.undef, .undef, .undef, .undef, .undef], .box [.d (.int .i64 op), .d (.int .i64 nn), .d (.str s), .d (.sl k 2 (lsF C N W Q)), .nils]]⟩
        | i + 1 => ⟨[.undef, .d (.sl len 5 GB), .d (.int .i64 d), .iptr (fun x j => getL [.int .i64 op, .int .i64 n, .str s, .sl k 2 (lsF C N W Q), .sl m 5 G] j .nilp) 0 0 5, .undef, .undef, .ptr 0 0, .undef, .undef, .ptr 1 0, .d (.int .i64 (i + 1 : Nat)), .undef, .undef, .undef, .undef, .undef, .undef, .undef, .undef, .undef, .undef, .undef, .undef, .undef, .undef, .undef, .undef, .undef, .undef, .undef, .undef, .undef, .undef, .undef, .undef, .undef, .undef, .undef, .undef, .undef, .undef, .undef, .undef, .undef, .undef, .undef, .undef, .undef, .undef, .undef, .undef, .undef, .undef, .undef, .undef, .undef, .undef, .undef, .undef, .undef, .undef, .undef, .undef, .undef, .undef, .undef, .undef, .undef, .undef, .undef, .undef, .undef, .undef, .undef, .undef, .undef, .undef, .undef, .undef, .undef, .undef, .undef, .undef, .undef, .undef, .undef, .undef, .undef, .undef, .undef, .undef], [.box [.undef, .undef, .undef, .undef, .undef], .box [.d (.int .i64 op), .d (.int .i64 nn), .d (.str s), .d (.sl k 2 (lsF C N W Q)), .ref 3 0 (i + 1) 5], .dead, .arr (i + 1) 5 G' 0]⟩) (fun y => m - y) (fun y => y ≤ m) 0 (Nat.zero_le _) (fun {_} => by kernel_rfl) ?_ (fun i => by cases i <;> kernel_rfl) @fun ⟨_, _, _, _, _, _, _, _, _, _, _, _, _, _, _, _, _, _, _, _, _, _, _, _, _, _, _, _, _, _, _, _, _, _, _, _, _, _, wpa, wfa⟩ i Bk hi hBk => ?_
    · (cbv; try simp only [wf, exD, exL, exT, exB, exA, leLs, leL_d, leL_undef, leL_nils, leA_nils, deq_refl, deq_int, deq_bool, deq_str, and_true, true_and, AObj.iter.injEq, nc, nc']; try simp (disch := omega) only [w64, w32, wu8])
      first
        | exact ⟨hnn.symm, rfl⟩
        | (clear hR ih' hbd hc hv; refine ⟨?_, rfl⟩; ((try simp only [wf, nc, nc', Int.toNat_natCast, bsz, ByteArray.size_append, List.length_cons, List.length_nil] at *); (try simp (disch := omega) only [w64, w32, wu8] at *)); omega)
    cases i with
    | zero =>
      (cbv; try simp only [wp, (show ∀ n : Nat, _ = n from fun n => wf.2.2.2.2.2.2.2.2.2.2.2.2.2.1 (Int.ofNat n)), (show _ = (0 : Nat) from wf.2.2.2.2.2.2.2.2.2.2.2.2.2.1 0), wpa, (show ∀ n : Nat, _ = n from fun n => wfa.2.2.2.2.2.2.2.2.2.2.2.2.2.1 (Int.ofNat n)), (show _ = (0 : Nat) from wfa.2.2.2.2.2.2.2.2.2.2.2.2.2.1 0), getL, takeL, dropL, TK.isAgg, reduceIte])
      refine ⟨fun e1 => ?_, fun e1 => ?_⟩
      · have e1 : 0 < m := (by (try simp only [wf, wfa, nc, nc', Int.toNat_natCast, bsz, ByteArray.size_append, List.length_cons, List.length_nil] at *); (try simp (disch := omega) only [w64, w32, wu8] at *); first | done | omega)
        (refine Later.mk ?_; cbv; try simp only [wp, (show ∀ n : Nat, _ = n from fun n => wf.2.2.2.2.2.2.2.2.2.2.2.2.2.1 (Int.ofNat n)), (show _ = (0 : Nat) from wf.2.2.2.2.2.2.2.2.2.2.2.2.2.1 0), wpa, (show ∀ n : Nat, _ = n from fun n => wfa.2.2.2.2.2.2.2.2.2.2.2.2.2.1 (Int.ofNat n)), (show _ = (0 : Nat) from wfa.2.2.2.2.2.2.2.2.2.2.2.2.2.1 0), getL, takeL, dropL, TK.isAgg, reduceIte])
        repeat' first | (with_reducible refine And.intro ?_ ?_) | intro c9 | trivial | (refine Later.mk ?_; cbv; try simp only [wp, (show ∀ n : Nat, _ = n from fun n => wf.2.2.2.2.2.2.2.2.2.2.2.2.2.1 (Int.ofNat n)), (show _ = (0 : Nat) from wf.2.2.2.2.2.2.2.2.2.2.2.2.2.1 0), wpa, (show ∀ n : Nat, _ = n from fun n => wfa.2.2.2.2.2.2.2.2.2.2.2.2.2.1 (Int.ofNat n)), (show _ = (0 : Nat) from wfa.2.2.2.2.2.2.2.2.2.2.2.2.2.1 0), getL, takeL, dropL, TK.isAgg, reduceIte])
        all_goals first | exact Nat.zero_le _ | exact (by (try simp only [wf, wfa, nc, nc', Int.toNat_natCast, bsz, ByteArray.size_append, List.length_cons, List.length_nil] at *); (try simp (disch := omega) only [w64, w32, wu8] at *); first | done | omega) | skip
        all_goals
          refine (hbd (0 : Nat)).call ?_
          rintro _ rfl
          obtain ⟨bi, hbi⟩ : ∃ bi, bi = bindI op m (0 : Nat) := ⟨_, rfl⟩
          have hbl := bindI_le op m (0 : Nat)
          rw [← hbi] at hbl ⊢
          (cbv; try simp only [wp, (show ∀ n : Nat, _ = n from fun n => wf.2.2.2.2.2.2.2.2.2.2.2.2.2.1 (Int.ofNat n)), (show _ = (0 : Nat) from wf.2.2.2.2.2.2.2.2.2.2.2.2.2.1 0), wpa, (show ∀ n : Nat, _ = n from fun n => wfa.2.2.2.2.2.2.2.2.2.2.2.2.2.1 (Int.ofNat n)), (show _ = (0 : Nat) from wfa.2.2.2.2.2.2.2.2.2.2.2.2.2.1 0), getL, takeL, dropL, TK.isAgg, reduceIte])
          repeat' first | (with_reducible refine And.intro ?_ ?_) | intro c9 | trivial | (refine Later.mk ?_; cbv; try simp only [wp, (show ∀ n : Nat, _ = n from fun n => wf.2.2.2.2.2.2.2.2.2.2.2.2.2.1 (Int.ofNat n)), (show _ = (0 : Nat) from wf.2.2.2.2.2.2.2.2.2.2.2.2.2.1 0), wpa, (show ∀ n : Nat, _ = n from fun n => wfa.2.2.2.2.2.2.2.2.2.2.2.2.2.1 (Int.ofNat n)), (show _ = (0 : Nat) from wfa.2.2.2.2.2.2.2.2.2.2.2.2.2.1 0), getL, takeL, dropL, TK.isAgg, reduceIte])
        all_goals
          refine (ih' (0) e1 _ (by rw [← hbi]; exact (by (try simp only [wf, wfa, nc, nc', Int.toNat_natCast, bsz, ByteArray.size_append, List.length_cons, List.length_nil] at *); (try simp (disch := omega) only [w64, w32, wu8] at *); first | done | omega))).call ?_
          rintro _ rfl
          (cbv; try simp only [wp, (show ∀ n : Nat, _ = n from fun n => wf.2.2.2.2.2.2.2.2.2.2.2.2.2.1 (Int.ofNat n)), (show _ = (0 : Nat) from wf.2.2.2.2.2.2.2.2.2.2.2.2.2.1 0), wpa, (show ∀ n : Nat, _ = n from fun n => wfa.2.2.2.2.2.2.2.2.2.2.2.2.2.1 (Int.ofNat n)), (show _ = (0 : Nat) from wfa.2.2.2.2.2.2.2.2.2.2.2.2.2.1 0), getL, takeL, dropL, TK.isAgg, reduceIte])
          repeat' first | (with_reducible refine And.intro ?_ ?_) | intro c9 | trivial | (refine Later.mk ?_; cbv; try simp only [wp, (show ∀ n : Nat, _ = n from fun n => wf.2.2.2.2.2.2.2.2.2.2.2.2.2.1 (Int.ofNat n)), (show _ = (0 : Nat) from wf.2.2.2.2.2.2.2.2.2.2.2.2.2.1 0), wpa, (show ∀ n : Nat, _ = n from fun n => wfa.2.2.2.2.2.2.2.2.2.2.2.2.2.1 (Int.ofNat n)), (show _ = (0 : Nat) from wfa.2.2.2.2.2.2.2.2.2.2.2.2.2.1 0), getL, takeL, dropL, TK.isAgg, reduceIte])
        all_goals first
          | exact Nat.zero_le _
          | exact (by (try simp only [wf, wfa, nc, nc', Int.toNat_natCast, bsz, ByteArray.size_append, List.length_cons, List.length_nil] at *); (try simp (disch := omega) only [w64, w32, wu8] at *); first | done | omega)
          | (refine hBk (0 + 1) _ (by omega) (by omega) ?_
             (cbv; try simp only [wf, wfa, exD, exL, exT, exB, exA, leLs, leL_d, leL_undef, leL_nils, leA_nils, deq_refl, deq_int, deq_bool, deq_str, and_true, true_and, AObj.iter.injEq, nc, nc']; try simp (disch := omega) only [w64, w32, wu8])
             try ((try simp only [wf, wfa, nc, nc', Int.toNat_natCast, bsz, ByteArray.size_append, List.length_cons, List.length_nil] at *); (try simp (disch := omega) only [w64, w32, wu8] at *))
             exact ⟨rfl, rfl, Nat.le_refl _, Nat.zero_le _, fun x j hx hj => .of_eq (by
                 obtain rfl : x = 0 := by omega
                 match j, hj with
                 | 0, _ | 1, _ | 2, _ | 3, _ | 4, _ => rfl)⟩)
      · obtain rfl : m = 0 := by have : m ≤ 0 := (by (try simp only [wf, wfa, nc, nc', Int.toNat_natCast, bsz, ByteArray.size_append, List.length_cons, List.length_nil] at *); (try simp (disch := omega) only [w64, w32, wu8] at *); first | done | omega); omega
        (refine Later.mk ?_; cbv; try simp only [wp, (show ∀ n : Nat, _ = n from fun n => wf.2.2.2.2.2.2.2.2.2.2.2.2.2.1 (Int.ofNat n)), (show _ = (0 : Nat) from wf.2.2.2.2.2.2.2.2.2.2.2.2.2.1 0), wpa, (show ∀ n : Nat, _ = n from fun n => wfa.2.2.2.2.2.2.2.2.2.2.2.2.2.1 (Int.ofNat n)), (show _ = (0 : Nat) from wfa.2.2.2.2.2.2.2.2.2.2.2.2.2.1 0), getL, takeL, dropL, TK.isAgg, reduceIte])
        exact hR _ _ (tml op n s k C N W Q 0 G') (by subst hnn; exact (.agg _ _ rfl (frzs_cons (.d _) (frzs_cons (.d _) (frzs_cons (.d _) (frzs_cons (.d _) (frzs_cons (.nils _ _) (frzs_nil _)))))))) rfl
    | succ i =>
      (cbv; try simp only [wp, (show ∀ n : Nat, _ = n from fun n => wf.2.2.2.2.2.2.2.2.2.2.2.2.2.1 (Int.ofNat n)), (show _ = (0 : Nat) from wf.2.2.2.2.2.2.2.2.2.2.2.2.2.1 0), wpa, (show ∀ n : Nat, _ = n from fun n => wfa.2.2.2.2.2.2.2.2.2.2.2.2.2.1 (Int.ofNat n)), (show _ = (0 : Nat) from wfa.2.2.2.2.2.2.2.2.2.2.2.2.2.1 0), getL, takeL, dropL, TK.isAgg, reduceIte])
      refine ⟨fun e1 => ?_, fun e1 => ?_⟩
      · have e1 : i + 1 < m := (by (try simp only [wf, wfa, nc, nc', Int.toNat_natCast, bsz, ByteArray.size_append, List.length_cons, List.length_nil] at *); (try simp (disch := omega) only [w64, w32, wu8] at *); first | done | omega)
        (refine Later.mk ?_; cbv; try simp only [wp, (show ∀ n : Nat, _ = n from fun n => wf.2.2.2.2.2.2.2.2.2.2.2.2.2.1 (Int.ofNat n)), (show _ = (0 : Nat) from wf.2.2.2.2.2.2.2.2.2.2.2.2.2.1 0), wpa, (show ∀ n : Nat, _ = n from fun n => wfa.2.2.2.2.2.2.2.2.2.2.2.2.2.1 (Int.ofNat n)), (show _ = (0 : Nat) from wfa.2.2.2.2.2.2.2.2.2.2.2.2.2.1 0), getL, takeL, dropL, TK.isAgg, reduceIte])
        repeat' first | (with_reducible refine And.intro ?_ ?_) | intro c9 | trivial | (refine Later.mk ?_; cbv; try simp only [wp, (show ∀ n : Nat, _ = n from fun n => wf.2.2.2.2.2.2.2.2.2.2.2.2.2.1 (Int.ofNat n)), (show _ = (0 : Nat) from wf.2.2.2.2.2.2.2.2.2.2.2.2.2.1 0), wpa, (show ∀ n : Nat, _ = n from fun n => wfa.2.2.2.2.2.2.2.2.2.2.2.2.2.1 (Int.ofNat n)), (show _ = (0 : Nat) from wfa.2.2.2.2.2.2.2.2.2.2.2.2.2.1 0), getL, takeL, dropL, TK.isAgg, reduceIte])
        all_goals first | exact Nat.zero_le _ | exact (by (try simp only [wf, wfa, nc, nc', Int.toNat_natCast, bsz, ByteArray.size_append, List.length_cons, List.length_nil] at *); (try simp (disch := omega) only [w64, w32, wu8] at *); first | done | omega) | skip
        all_goals
          refine (hbd (i + 1 : Nat)).call ?_
          rintro _ rfl
          obtain ⟨bi, hbi⟩ : ∃ bi, bi = bindI op m (i + 1 : Nat) := ⟨_, rfl⟩
          have hbl := bindI_le op m (i + 1 : Nat)
          rw [← hbi] at hbl ⊢
          (cbv; try simp only [wp, (show ∀ n : Nat, _ = n from fun n => wf.2.2.2.2.2.2.2.2.2.2.2.2.2.1 (Int.ofNat n)), (show _ = (0 : Nat) from wf.2.2.2.2.2.2.2.2.2.2.2.2.2.1 0), wpa, (show ∀ n : Nat, _ = n from fun n => wfa.2.2.2.2.2.2.2.2.2.2.2.2.2.1 (Int.ofNat n)), (show _ = (0 : Nat) from wfa.2.2.2.2.2.2.2.2.2.2.2.2.2.1 0), getL, takeL, dropL, TK.isAgg, reduceIte])
          repeat' first | (with_reducible refine And.intro ?_ ?_) | intro c9 | trivial | (refine Later.mk ?_; cbv; try simp only [wp, (show ∀ n : Nat, _ = n from fun n => wf.2.2.2.2.2.2.2.2.2.2.2.2.2.1 (Int.ofNat n)), (show _ = (0 : Nat) from wf.2.2.2.2.2.2.2.2.2.2.2.2.2.1 0), wpa, (show ∀ n : Nat, _ = n from fun n => wfa.2.2.2.2.2.2.2.2.2.2.2.2.2.1 (Int.ofNat n)), (show _ = (0 : Nat) from wfa.2.2.2.2.2.2.2.2.2.2.2.2.2.1 0), getL, takeL, dropL, TK.isAgg, reduceIte])
        all_goals
          refine (ih' (i + 1) e1 _ (by rw [← hbi]; exact (by (try simp only [wf, wfa, nc, nc', Int.toNat_natCast, bsz, ByteArray.size_append, List.length_cons, List.length_nil] at *); (try simp (disch := omega) only [w64, w32, wu8] at *); first | done | omega))).call ?_
          rintro _ rfl
          (cbv; try simp only [wp, (show ∀ n : Nat, _ = n from fun n => wf.2.2.2.2.2.2.2.2.2.2.2.2.2.1 (Int.ofNat n)), (show _ = (0 : Nat) from wf.2.2.2.2.2.2.2.2.2.2.2.2.2.1 0), wpa, (show ∀ n : Nat, _ = n from fun n => wfa.2.2.2.2.2.2.2.2.2.2.2.2.2.1 (Int.ofNat n)), (show _ = (0 : Nat) from wfa.2.2.2.2.2.2.2.2.2.2.2.2.2.1 0), getL, takeL, dropL, TK.isAgg, reduceIte])
          repeat' first | (with_reducible refine And.intro ?_ ?_) | intro c9 | trivial | (refine Later.mk ?_; cbv; try simp only [wp, (show ∀ n : Nat, _ = n from fun n => wf.2.2.2.2.2.2.2.2.2.2.2.2.2.1 (Int.ofNat n)), (show _ = (0 : Nat) from wf.2.2.2.2.2.2.2.2.2.2.2.2.2.1 0), wpa, (show ∀ n : Nat, _ = n from fun n => wfa.2.2.2.2.2.2.2.2.2.2.2.2.2.1 (Int.ofNat n)), (show _ = (0 : Nat) from wfa.2.2.2.2.2.2.2.2.2.2.2.2.2.1 0), getL, takeL, dropL, TK.isAgg, reduceIte])
        all_goals first
          | exact Nat.zero_le _
          | exact (by (try simp only [wf, wfa, nc, nc', Int.toNat_natCast, bsz, ByteArray.size_append, List.length_cons, List.length_nil] at *); (try simp (disch := omega) only [w64, w32, wu8] at *); first | done | omega)
          | (refine hBk (i + 1 + 1) _ (by omega) (by omega) ?_
             (cbv; try simp only [wf, wfa, exD, exL, exT, exB, exA, leLs, leL_d, leL_undef, leL_nils, leA_nils, deq_refl, deq_int, deq_bool, deq_str, and_true, true_and, AObj.iter.injEq, nc, nc']; try simp (disch := omega) only [w64, w32, wu8])
             try ((try simp only [wf, wfa, nc, nc', Int.toNat_natCast, bsz, ByteArray.size_append, List.length_cons, List.length_nil] at *); (try simp (disch := omega) only [w64, w32, wu8] at *))
             exact ⟨by omega, rfl, Nat.le_refl _, Nat.zero_le _, fun x j hx hj => .of_eq (app_row2 (g' := G') (fun _ _ _ _ => rfl) (fun j hj => by
                 match j, hj with
                 | 0, _ | 1, _ | 2, _ | 3, _ | 4, _ => rfl) x j hx hj)⟩)
      · obtain rfl : m = i + 1 := by have : m ≤ i + 1 := (by (try simp only [wf, wfa, nc, nc', Int.toNat_natCast, bsz, ByteArray.size_append, List.length_cons, List.length_nil] at *); (try simp (disch := omega) only [w64, w32, wu8] at *); first | done | omega); omega
        (refine Later.mk ?_; cbv; try simp only [wp, (show ∀ n : Nat, _ = n from fun n => wf.2.2.2.2.2.2.2.2.2.2.2.2.2.1 (Int.ofNat n)), (show _ = (0 : Nat) from wf.2.2.2.2.2.2.2.2.2.2.2.2.2.1 0), wpa, (show ∀ n : Nat, _ = n from fun n => wfa.2.2.2.2.2.2.2.2.2.2.2.2.2.1 (Int.ofNat n)), (show _ = (0 : Nat) from wfa.2.2.2.2.2.2.2.2.2.2.2.2.2.1 0), getL, takeL, dropL, TK.isAgg, reduceIte])
        exact hR _ _ (tml op n s k C N W Q (i + 1) G') (by subst hnn; exact (.agg _ _ rfl (frzs_cons (.d _) (frzs_cons (.d _) (frzs_cons (.d _) (frzs_cons (.d _) (frzs_cons (.ref0 _ _ _ _ _ _ rfl rfl) (frzs_nil _)))))))) rfl
set_option maxHeartbeats 4000000 in
theorem rflB (hl : len ≤ 100000) (hB : ∀ i, i < len → tm (B i) = kid GB i) (hS : ∀ i, i < len → 4 * nodesT (B i) ≤ 4194304) (op n : Int) (s : ByteArray) (k : Nat) (C : Nat → Int) (N : Nat → Nat) (W Q : Nat → Nat → Int) (m : Nat) (ok : TmOk op n s k N m) (K : Nat → Tm) (G : Nat → Nat → D) (hG : ∀ i, i < m → tm (K i) = kid G i)
    (e : tm (.nd op n s k C N W Q m ok K) = tml op n s k C N W Q m G) (ih : ∀ i, i < m → RFl len GB B (K i)) (d : Int) (hd : 0 ≤ d) (hs : d + 4 * nodesT (.nd op n s k C N W Q m ok K) ≤ 4194304) (hv1 : IsV op n) (h1 : len ≤ n - d) : VFun (P ()) 37 [tm (.nd op n s k C N W Q m ok K), .d (.sl len 5 GB), .d (.int .i64 d)] (fun r => r = tm (mapT (fFl len B) (.nd op n s k C N W Q m ok K) d)) := by
  rw [nodesT_nd] at hs
  have b1 := sumF_ge (f := fun i => 1 + N i) (fun i => by omega) k
  have b2 := sumF_ge (f := fun i => nodesT (K i)) (fun i => nodesT_pos _) m
  have b3 : ∀ i, i < k → N i ≤ 1048575 := fun i hi => by have := sumF_one (f := fun i => 1 + N i) hi; omega
  have b4 : ∀ i, i < m → d + 3 + 4 * nodesT (K i) ≤ 4194304 := fun i hi => by have := sumF_one (f := fun i => nodesT (K i)) hi; omega
  have b6 : d ≤ 4194304 := by omega
  have b5 : k ≤ 4194304 ∧ m ≤ 4194304 := ⟨by omega, by omega⟩
  have hc := withR op n s k C N W Q m G (by omega) (fun i hi => by have := b3 i hi; omega)
  have hbd := fun i => bindsR op n s k C N W Q m G i (by omega)
  have hv := variableR op n s k C N W Q m G
  obtain ⟨G', hG', e'⟩ := tm_rows (op := op) (n := n) (s := s) (k := k) (C := C) (N := N) (W := W) (Q := Q) (m := m) (ok := ok) fun i => mapT (fFl len B) (K i) (d + bindI op m i)
  have ih' : ∀ i, i < m → ∀ (d' : Int), d' = d + bindI op m i → VFun (P ()) 37 [kid G i, .d (.sl len 5 GB), .d (.int .i64 d')] (fun r => r = kid G' i) := fun i hi d' hd' => by
    have hb := bindI_le op m i
    have := ih i hi d' (by omega) (by have := b4 i hi; omega)
    rw [hG i hi, hd', hG' i hi] at this
    rw [hd']
    exact this
  have hvv := hv1.2
  rw [e, fl_over len B d hv1 h1 ⟨ok.op, by have := hv1.2; omega, ok.s, ok.k, ok.N, ok.m⟩, e']
  obtain ⟨nn, hnn⟩ : ∃ nn, nn = n - (len : Int) := ⟨_, rfl⟩
  have hb0 : ∀ i : Nat, bindI op m i = 0 := fun i => by rw [hv1.1]; exact bindI_0 m i
  rw [← hnn]
  clear ih e e' hG hG' b1 b2 b3 b4 hs hB hS
  refine vfunL (Tf := fun {_} _ => fzT [3] (T ())) (fun {_} => tabOk.frz [3]) [] 400 Tryz.func37 rfl (fun {_} => by kernel_rfl) rfl (Nat.le_of_ble_eq_true rfl) @fun ⟨_, _, _, _, _, _, _, _, _, _, _, _, _, _, _, _, _, _, _, _, _, _, _, _, _, _, _, _, _, _, _, _, _, _, _, _, _, _, wp, wf⟩ R hR => ?_
  cbv
  try simp only [wp, (show ∀ n : Nat, _ = n from fun n => wf.2.2.2.2.2.2.2.2.2.2.2.2.2.1 (Int.ofNat n)), getL, takeL, dropL, TK.isAgg, reduceIte]
  repeat' first | (with_reducible refine And.intro ?_ ?_) | intro c9 | trivial | (refine Later.mk ?_; cbv; try simp only [wp, (show ∀ n : Nat, _ = n from fun n => wf.2.2.2.2.2.2.2.2.2.2.2.2.2.1 (Int.ofNat n)), (show _ = (0 : Nat) from wf.2.2.2.2.2.2.2.2.2.2.2.2.2.1 0), getL, takeL, dropL, TK.isAgg, reduceIte])
  refine hv.call ?_
  rintro _ ⟨b, hb, rfl⟩
  obtain rfl := hb.2 hv1
  (cbv; try simp only [wp, (show ∀ n : Nat, _ = n from fun n => wf.2.2.2.2.2.2.2.2.2.2.2.2.2.1 (Int.ofNat n)), (show _ = (0 : Nat) from wf.2.2.2.2.2.2.2.2.2.2.2.2.2.1 0), getL, takeL, dropL, TK.isAgg, reduceIte])
  repeat' first | (with_reducible refine And.intro ?_ ?_) | intro c9 | trivial | (refine Later.mk ?_; cbv; try simp only [wp, (show ∀ n : Nat, _ = n from fun n => wf.2.2.2.2.2.2.2.2.2.2.2.2.2.1 (Int.ofNat n)), (show _ = (0 : Nat) from wf.2.2.2.2.2.2.2.2.2.2.2.2.2.1 0), getL, takeL, dropL, TK.isAgg, reduceIte])
  all_goals first
    | (exfalso; clear hR; ((try simp only [wf, nc, nc', Int.toNat_natCast, bsz, ByteArray.size_append, List.length_cons, List.length_nil] at *); (try simp (disch := omega) only [w64, w32, wu8] at *)); omega)
    | (clear hR; exact (by (try simp only [wf, nc, nc', Int.toNat_natCast, bsz, ByteArray.size_append, List.length_cons, List.length_nil] at *); (try simp (disch := omega) only [w64, w32, wu8] at *); first | done | omega))
    | skip
  all_goals
    refine hc.call ?_
    rintro _ rfl
    (cbv; try simp only [wp, (show ∀ n : Nat, _ = n from fun n => wf.2.2.2.2.2.2.2.2.2.2.2.2.2.1 (Int.ofNat n)), (show _ = (0 : Nat) from wf.2.2.2.2.2.2.2.2.2.2.2.2.2.1 0), getL, takeL, dropL, TK.isAgg, reduceIte])
    repeat' first | (with_reducible refine And.intro ?_ ?_) | intro c9 | trivial | (refine Later.mk ?_; cbv; try simp only [wp, (show ∀ n : Nat, _ = n from fun n => wf.2.2.2.2.2.2.2.2.2.2.2.2.2.1 (Int.ofNat n)), (show _ = (0 : Nat) from wf.2.2.2.2.2.2.2.2.2.2.2.2.2.1 0), getL, takeL, dropL, TK.isAgg, reduceIte])
  all_goals
    refine loopL (Tf := fun {_} _ => fzT [3] (T ())) (fun {_} => tabOk.frz [3]) [] 400 (fun y : Nat => match y with
        | 0 => ⟨[.undef, .d (.sl len 5 GB), .d (.int .i64 d), .iptr (fun x j => getL [.int .i64 op, .int .i64 n, .str s, .sl k 2 (lsF C N W Q), .sl m 5 G] j .nilp) 0 0 5, .undef, .undef, .ptr 0 0, .ptr 1 0, .d (.int .i64 0), .undef, .undef, .undef, .undef, .undef, .undef, .undef, .undef, .undef, .undef, .undef, .undef, .undef, .undef, .undef, .undef, .undef, .undef, .undef, .undef, .undef, .undef, .undef, .undef, .undef, .undef, .undef, .undef, .undef, .undef, .undef, .undef, .undef, .undef, .undef, .undef, .undef, .undef, .undef, .undef, .undef, .undef, .undef, .undef, .undef, .undef, .undef, .undef, .undef, .undef, .undef, .undef, .undef, .undef, .undef, .undef, .undef, .undef, .undef, .undef, .undef, .undef, .undef, .undef, .undef, .undef, .undef, .undef, .undef, .undef, .undef, .undef, .undef, .undef, .undef, .undef, .undef, .undef, .undef, .undef, .undef, .undef], [.box [.undef, .undef, .undef, .undef, .undef], .box [.d (.int .i64 op), .d (.int .i64 nn), .d (.str s), .d (.sl k 2 (lsF C N W Q)), .nils]]⟩
        | i + 1 => ⟨[.undef, .d (.sl len 5 GB), .d (.int .i64 d), .iptr (fun x j => getL [.int .i64 op, .int .i64 n, .str s, .sl k 2 (lsF C N W Q), .sl m 5 G] j .nilp) 0 0 5, .undef, .undef, .ptr 0 0, .ptr 1 0, .d (.int .i64 (i + 1 : Nat)), .undef, .undef, .undef, .undef, .undef, .undef, .undef, .undef, .undef, .undef, .undef, .undef, .undef, .undef, .undef, .undef, .undef, .undef, .undef, .undef, .undef, .undef, .undef, .undef, .undef, .undef, .undef, .undef, .undef, .undef, .undef, .undef, .undef, .undef, .undef, .undef, .undef, .undef, .undef, .undef, .undef, .undef, .undef, .undef, .undef, .undef, .undef, .undef, .undef, .undef, .undef, .undef, .undef, .undef, .undef, .undef, .undef, .undef, .undef, .undef, .undef, .undef, .undef, .undef, .undef, .undef, .undef, .undef, .undef, .undef, .undef, .undef, .undef, .undef, .undef, .undef, .undef, .undef, .undef, .undef, .undef, .undef], [.box [.undef, .undef, .undef, .undef, .undef], .box [.d (.int .i64 op), .d (.int .i64 nn), .d (.str s), .d (.sl k 2 (lsF C N W Q)), .ref 3 0 (i + 1) 5], .dead, .arr (i + 1) 5 G' 0]⟩) (fun y => m - y) (fun y => y ≤ m) 0 (Nat.zero_le _) (fun {_} => by kernel_rfl) ?_ (fun i => by cases i <;> kernel_rfl) @fun ⟨_, _, _, _, _, _, _, _, _, _, _, _, _, _, _, _, _, _, _, _, _, _, _, _, _, _, _, _, _, _, _, _, _, _, _, _, _, _, wpa, wfa⟩ i Bk hi hBk => ?_
    · (cbv; try simp only [wf, exD, exL, exT, exB, exA, leLs, leL_d, leL_undef, leL_nils, leA_nils, deq_refl, deq_int, deq_bool, deq_str, and_true, true_and, AObj.iter.injEq, nc, nc']; try simp (disch := omega) only [w64, w32, wu8])
      first
        | exact ⟨hnn.symm, rfl⟩
        | (clear hR ih' hbd hc hv; refine ⟨?_, rfl⟩; ((try simp only [wf, nc, nc', Int.toNat_natCast, bsz, ByteArray.size_append, List.length_cons, List.length_nil] at *); (try simp (disch := omega) only [w64, w32, wu8] at *)); omega)
    cases i with
    | zero =>
      (cbv; try simp only [wp, (show ∀ n : Nat, _ = n from fun n => wf.2.2.2.2.2.2.2.2.2.2.2.2.2.1 (Int.ofNat n)), (show _ = (0 : Nat) from wf.2.2.2.2.2.2.2.2.2.2.2.2.2.1 0), wpa, (show ∀ n : Nat, _ = n from fun n => wfa.2.2.2.2.2.2.2.2.2.2.2.2.2.1 (Int.ofNat n)), (show _ = (0 : Nat) from wfa.2.2.2.2.2.2.2.2.2.2.2.2.2.1 0), getL, takeL, dropL, TK.isAgg, reduceIte])
      refine ⟨fun e1 => ?_, fun e1 => ?_⟩
      · have e1 : 0 < m := (by (try simp only [wf, wfa, nc, nc', Int.toNat_natCast, bsz, ByteArray.size_append, List.length_cons, List.length_nil] at *); (try simp (disch := omega) only [w64, w32, wu8] at *); first | done | omega)
        (refine Later.mk ?_; cbv; try simp only [wp, (show ∀ n : Nat, _ = n from fun n => wf.2.2.2.2.2.2.2.2.2.2.2.2.2.1 (Int.ofNat n)), (show _ = (0 : Nat) from wf.2.2.2.2.2.2.2.2.2.2.2.2.2.1 0), wpa, (show ∀ n : Nat, _ = n from fun n => wfa.2.2.2.2.2.2.2.2.2.2.2.2.2.1 (Int.ofNat n)), (show _ = (0 : Nat) from wfa.2.2.2.2.2.2.2.2.2.2.2.2.2.1 0), getL, takeL, dropL, TK.isAgg, reduceIte])
        repeat' first | (with_reducible refine And.intro ?_ ?_) | intro c9 | trivial | (refine Later.mk ?_; cbv; try simp only [wp, (show ∀ n : Nat, _ = n from fun n => wf.2.2.2.2.2.2.2.2.2.2.2.2.2.1 (Int.ofNat n)), (show _ = (0 : Nat) from wf.2.2.2.2.2.2.2.2.2.2.2.2.2.1 0), wpa, (show ∀ n : Nat, _ = n from fun n => wfa.2.2.2.2.2.2.2.2.2.2.2.2.2.1 (Int.ofNat n)), (show _ = (0 : Nat) from wfa.2.2.2.2.2.2.2.2.2.2.2.2.2.1 0), getL, takeL, dropL, TK.isAgg, reduceIte])
        all_goals first | exact Nat.zero_le _ | exact (by (try simp only [wf, wfa, nc, nc', Int.toNat_natCast, bsz, ByteArray.size_append, List.length_cons, List.length_nil] at *); (try simp (disch := omega) only [w64, w32, wu8] at *); first | done | omega) | skip
        all_goals
          refine (ih' (0) e1 _ (by rw [hb0]; exact (by (try simp only [wf, wfa, nc, nc', Int.toNat_natCast, bsz, ByteArray.size_append, List.length_cons, List.length_nil] at *); (try simp (disch := omega) only [w64, w32, wu8] at *); first | done | omega))).call ?_
          rintro _ rfl
          (cbv; try simp only [wp, (show ∀ n : Nat, _ = n from fun n => wf.2.2.2.2.2.2.2.2.2.2.2.2.2.1 (Int.ofNat n)), (show _ = (0 : Nat) from wf.2.2.2.2.2.2.2.2.2.2.2.2.2.1 0), wpa, (show ∀ n : Nat, _ = n from fun n => wfa.2.2.2.2.2.2.2.2.2.2.2.2.2.1 (Int.ofNat n)), (show _ = (0 : Nat) from wfa.2.2.2.2.2.2.2.2.2.2.2.2.2.1 0), getL, takeL, dropL, TK.isAgg, reduceIte])
          repeat' first | (with_reducible refine And.intro ?_ ?_) | intro c9 | trivial | (refine Later.mk ?_; cbv; try simp only [wp, (show ∀ n : Nat, _ = n from fun n => wf.2.2.2.2.2.2.2.2.2.2.2.2.2.1 (Int.ofNat n)), (show _ = (0 : Nat) from wf.2.2.2.2.2.2.2.2.2.2.2.2.2.1 0), wpa, (show ∀ n : Nat, _ = n from fun n => wfa.2.2.2.2.2.2.2.2.2.2.2.2.2.1 (Int.ofNat n)), (show _ = (0 : Nat) from wfa.2.2.2.2.2.2.2.2.2.2.2.2.2.1 0), getL, takeL, dropL, TK.isAgg, reduceIte])
        all_goals first
          | exact Nat.zero_le _
          | exact (by (try simp only [wf, wfa, nc, nc', Int.toNat_natCast, bsz, ByteArray.size_append, List.length_cons, List.length_nil] at *); (try simp (disch := omega) only [w64, w32, wu8] at *); first | done | omega)
          | (refine hBk (0 + 1) _ (by omega) (by omega) ?_
             (cbv; try simp only [wf, wfa, exD, exL, exT, exB, exA, leLs, leL_d, leL_undef, leL_nils, leA_nils, deq_refl, deq_int, deq_bool, deq_str, and_true, true_and, AObj.iter.injEq, nc, nc']; try simp (disch := omega) only [w64, w32, wu8])
             try ((try simp only [wf, wfa, nc, nc', Int.toNat_natCast, bsz, ByteArray.size_append, List.length_cons, List.length_nil] at *); (try simp (disch := omega) only [w64, w32, wu8] at *))
             exact ⟨rfl, rfl, Nat.le_refl _, Nat.zero_le _, fun x j hx hj => .of_eq (by
                 obtain rfl : x = 0 := by omega
                 match j, hj with
                 | 0, _ | 1, _ | 2, _ | 3, _ | 4, _ => rfl)⟩)
      · obtain rfl : m = 0 := by have : m ≤ 0 := (by (try simp only [wf, wfa, nc, nc', Int.toNat_natCast, bsz, ByteArray.size_append, List.length_cons, List.length_nil] at *); (try simp (disch := omega) only [w64, w32, wu8] at *); first | done | omega); omega
        (refine Later.mk ?_; cbv; try simp only [wp, (show ∀ n : Nat, _ = n from fun n => wf.2.2.2.2.2.2.2.2.2.2.2.2.2.1 (Int.ofNat n)), (show _ = (0 : Nat) from wf.2.2.2.2.2.2.2.2.2.2.2.2.2.1 0), wpa, (show ∀ n : Nat, _ = n from fun n => wfa.2.2.2.2.2.2.2.2.2.2.2.2.2.1 (Int.ofNat n)), (show _ = (0 : Nat) from wfa.2.2.2.2.2.2.2.2.2.2.2.2.2.1 0), getL, takeL, dropL, TK.isAgg, reduceIte])
        exact hR _ _ (tml op nn s k C N W Q 0 G') (by skip; exact (.agg _ _ rfl (frzs_cons (.d _) (frzs_cons (.d _) (frzs_cons (.d _) (frzs_cons (.d _) (frzs_cons (.nils _ _) (frzs_nil _)))))))) rfl
    | succ i =>
      (cbv; try simp only [wp, (show ∀ n : Nat, _ = n from fun n => wf.2.2.2.2.2.2.2.2.2.2.2.2.2.1 (Int.ofNat n)), (show _ = (0 : Nat) from wf.2.2.2.2.2.2.2.2.2.2.2.2.2.1 0), wpa, (show ∀ n : Nat, _ = n from fun n => wfa.2.2.2.2.2.2.2.2.2.2.2.2.2.1 (Int.ofNat n)), (show _ = (0 : Nat) from wfa.2.2.2.2.2.2.2.2.2.2.2.2.2.1 0), getL, takeL, dropL, TK.isAgg, reduceIte])
      refine ⟨fun e1 => ?_, fun e1 => ?_⟩
      · have e1 : i + 1 < m := (by (try simp only [wf, wfa, nc, nc', Int.toNat_natCast, bsz, ByteArray.size_append, List.length_cons, List.length_nil] at *); (try simp (disch := omega) only [w64, w32, wu8] at *); first | done | omega)
        (refine Later.mk ?_; cbv; try simp only [wp, (show ∀ n : Nat, _ = n from fun n => wf.2.2.2.2.2.2.2.2.2.2.2.2.2.1 (Int.ofNat n)), (show _ = (0 : Nat) from wf.2.2.2.2.2.2.2.2.2.2.2.2.2.1 0), wpa, (show ∀ n : Nat, _ = n from fun n => wfa.2.2.2.2.2.2.2.2.2.2.2.2.2.1 (Int.ofNat n)), (show _ = (0 : Nat) from wfa.2.2.2.2.2.2.2.2.2.2.2.2.2.1 0), getL, takeL, dropL, TK.isAgg, reduceIte])
        repeat' first | (with_reducible refine And.intro ?_ ?_) | intro c9 | trivial | (refine Later.mk ?_; cbv; try simp only [wp, (show ∀ n : Nat, _ = n from fun n => wf.2.2.2.2.2.2.2.2.2.2.2.2.2.1 (Int.ofNat n)), (show _ = (0 : Nat) from wf.2.2.2.2.2.2.2.2.2.2.2.2.2.1 0), wpa, (show ∀ n : Nat, _ = n from fun n => wfa.2.2.2.2.2.2.2.2.2.2.2.2.2.1 (Int.ofNat n)), (show _ = (0 : Nat) from wfa.2.2.2.2.2.2.2.2.2.2.2.2.2.1 0), getL, takeL, dropL, TK.isAgg, reduceIte])
        all_goals first | exact Nat.zero_le _ | exact (by (try simp only [wf, wfa, nc, nc', Int.toNat_natCast, bsz, ByteArray.size_append, List.length_cons, List.length_nil] at *); (try simp (disch := omega) only [w64, w32, wu8] at *); first | done | omega) | skip
        all_goals
          refine (ih' (i + 1) e1 _ (by rw [hb0]; exact (by (try simp only [wf, wfa, nc, nc', Int.toNat_natCast, bsz, ByteArray.size_append, List.length_cons, List.length_nil] at *); (try simp (disch := omega) only [w64, w32, wu8] at *); first | done | omega))).call ?_
          rintro _ rfl
          (cbv; try simp only [wp, (show ∀ n : Nat, _ = n from fun n => wf.2.2.2.2.2.2.2.2.2.2.2.2.2.1 (Int.ofNat n)), (show _ = (0 : Nat) from wf.2.2.2.2.2.2.2.2.2.2.2.2.2.1 0), wpa, (show ∀ n : Nat, _ = n from fun n => wfa.2.2.2.2.2.2.2.2.2.2.2.2.2.1 (Int.ofNat n)), (show _ = (0 : Nat) from wfa.2.2.2.2.2.2.2.2.2.2.2.2.2.1 0), getL, takeL, dropL, TK.isAgg, reduceIte])
          repeat' first | (with_reducible refine And.intro ?_ ?_) | intro c9 | trivial | (refine Later.mk ?_; cbv; try simp only [wp, (show ∀ n : Nat, _ = n from fun n => wf.2.2.2.2.2.2.2.2.2.2.2.2.2.1 (Int.ofNat n)), (show _ = (0 : Nat) from wf.2.2.2.2.2.2.2.2.2.2.2.2.2.1 0), wpa, (show ∀ n : Nat, _ = n from fun n => wfa.2.2.2.2.2.2.2.2.2.2.2.2.2.1 (Int.ofNat n)), (show _ = (0 : Nat) from wfa.2.2.2.2.2.2.2.2.2.2.2.2.2.1 0), getL, takeL, dropL, TK.isAgg, reduceIte])
        all_goals first
          | exact Nat.zero_le _
          | exact (by (try simp only [wf, wfa, nc, nc', Int.toNat_natCast, bsz, ByteArray.size_append, List.length_cons, List.length_nil] at *); (try simp (disch := omega) only [w64, w32, wu8] at *); first | done | omega)
          | (refine hBk (i + 1 + 1) _ (by omega) (by omega) ?_
             (cbv; try simp only [wf, wfa, exD, exL, exT, exB, exA, leLs, leL_d, leL_undef, leL_nils, leA_nils, deq_refl, deq_int, deq_bool, deq_str, and_true, true_and, AObj.iter.injEq, nc, nc']; try simp (disch := omega) only [w64, w32, wu8])
             try ((try simp only [wf, wfa, nc, nc', Int.toNat_natCast, bsz, ByteArray.size_append, List.length_cons, List.length_nil] at *); (try simp (disch := omega) only [w64, w32, wu8] at *))
             exact ⟨by omega, rfl, Nat.le_refl _, Nat.zero_le _, fun x j hx hj => .of_eq (app_row2 (g' := G') (fun _ _ _ _ => rfl) (fun j hj => by
                 match j, hj with
                 | 0, _ | 1, _ | 2, _ | 3, _ | 4, _ => rfl) x j hx hj)⟩)
      · obtain rfl : m = i + 1 := by have : m ≤ i + 1 := (by (try simp only [wf, wfa, nc, nc', Int.toNat_natCast, bsz, ByteArray.size_append, List.length_cons, List.length_nil] at *); (try simp (disch := omega) only [w64, w32, wu8] at *); first | done | omega); omega
        (refine Later.mk ?_; cbv; try simp only [wp, (show ∀ n : Nat, _ = n from fun n => wf.2.2.2.2.2.2.2.2.2.2.2.2.2.1 (Int.ofNat n)), (show _ = (0 : Nat) from wf.2.2.2.2.2.2.2.2.2.2.2.2.2.1 0), wpa, (show ∀ n : Nat, _ = n from fun n => wfa.2.2.2.2.2.2.2.2.2.2.2.2.2.1 (Int.ofNat n)), (show _ = (0 : Nat) from wfa.2.2.2.2.2.2.2.2.2.2.2.2.2.1 0), getL, takeL, dropL, TK.isAgg, reduceIte])
        exact hR _ _ (tml op nn s k C N W Q (i + 1) G') (by skip; exact (.agg _ _ rfl (frzs_cons (.d _) (frzs_cons (.d _) (frzs_cons (.d _) (frzs_cons (.d _) (frzs_cons (.ref0 _ _ _ _ _ _ rfl rfl) (frzs_nil _)))))))) rfl
/-- fill of the reference -/
theorem rfill (hl : len ≤ 100000) (hB : ∀ i, i < len → tm (B i) = kid GB i) (hS : ∀ i, i < len → 4 * nodesT (B i) ≤ 4194304) (t : Tm) : RFl len GB B t := by
  refine Tm.walk (P := fun t => RFl len GB B t) ?_ t
  intro op n s k C N W Q m ok K G hG e ih d hd hs
  by_cases hv : IsV op n
  · by_cases h0 : n - d < 0
    · exact rflC len GB B hl hB hS op n s k C N W Q m ok K G hG e ih d hd hs fun _ => h0
    · by_cases h1 : n - d < len
      · exact rflA len GB B hl hB hS op n s k C N W Q m ok K G hG e ih d hd hs hv (by omega) h1
      · exact rflB len GB B hl hB hS op n s k C N W Q m ok K G hG e ih d hd hs hv (by omega)
  · exact rflC len GB B hl hB hS op n s k C N W Q m ok K G hG e ih d hd hs fun h => absurd h hv
end
end Go.VM


namespace Go.VM
open Go.Proofs Go
set_option maxRecDepth 100000
set_option linter.unusedVariables false
set_option linter.unusedSimpArgs false
theorem RFill (len : Nat) (GB : Nat → Nat → D) (B : Nat → Tm) (hl : len ≤ 100000) (hB : ∀ i, i < len → tm (B i) = kid GB i) (hS : ∀ i, i < len → 4 * nodesT (B i) ≤ 4194304) (t : Tm) (hs : 4 * nodesT t ≤ 4194304) : VFun (P ()) 10 [tm t, .d (.sl len 5 GB)] (fun r => r = tm (mapT (fFl len B) t 0)) := by
  have hw := rfill len GB B hl hB hS t 0 (by decide) (by omega)
  unfold tm at hw ⊢
  obtain ⟨f, hf⟩ : ∃ f, f = tmD t := ⟨_, rfl⟩
  obtain ⟨g, hg⟩ : ∃ g, g = tmD (mapT (fFl len B) t 0) := ⟨_, rfl⟩
  rw [← hf, ← hg] at hw ⊢
  clear hf hg
  refine vfunL (Tf := fun {_} _ => fzT [2] (T ())) (fun {_} => tabOk.frz [2]) [] 400 Tryz.func10 rfl (fun {_} => by kernel_rfl) rfl (Nat.le_of_ble_eq_true rfl) @fun ⟨_, _, _, _, _, _, _, _, _, _, _, _, _, _, _, _, _, _, _, _, _, _, _, _, _, _, _, _, _, _, _, _, _, _, _, _, _, _, wp, wf⟩ R hR => ?_
  cbv
  try simp only [wp, (show ∀ n : Nat, _ = n from fun n => wf.2.2.2.2.2.2.2.2.2.2.2.2.2.1 (Int.ofNat n)), getL, takeL, dropL, TK.isAgg, reduceIte]
  repeat' first | (with_reducible refine And.intro ?_ ?_) | intro c9 | trivial | (refine Later.mk ?_; cbv; try simp only [wp, (show ∀ n : Nat, _ = n from fun n => wf.2.2.2.2.2.2.2.2.2.2.2.2.2.1 (Int.ofNat n)), (show _ = (0 : Nat) from wf.2.2.2.2.2.2.2.2.2.2.2.2.2.1 0), getL, takeL, dropL, TK.isAgg, reduceIte])
  refine hw.call ?_
  rintro _ rfl
  (cbv; try simp only [wp, (show ∀ n : Nat, _ = n from fun n => wf.2.2.2.2.2.2.2.2.2.2.2.2.2.1 (Int.ofNat n)), (show _ = (0 : Nat) from wf.2.2.2.2.2.2.2.2.2.2.2.2.2.1 0), getL, takeL, dropL, TK.isAgg, reduceIte])
  repeat' first | (with_reducible refine And.intro ?_ ?_) | intro c9 | trivial | (refine Later.mk ?_; cbv; try simp only [wp, (show ∀ n : Nat, _ = n from fun n => wf.2.2.2.2.2.2.2.2.2.2.2.2.2.1 (Int.ofNat n)), (show _ = (0 : Nat) from wf.2.2.2.2.2.2.2.2.2.2.2.2.2.1 0), getL, takeL, dropL, TK.isAgg, reduceIte])
  all_goals exact hR _ _ _ (.same5 _ _ _ _ _) rfl
set_option maxHeartbeats 1000000 in
theorem RSizeB (t : Tm) : nodesT t ≤ 1000000 → VFun (P ()) 11 [tm t] (fun r => r = .tup [.d (.int .i64 (cntT t)), .d (.int .i64 (depT t))]) := by
  refine Tm.walk (P := fun t => nodesT t ≤ 1000000 → VFun (P ()) 11 [tm t] (fun r => r = .tup [.d (.int .i64 (cntT t)), .d (.int .i64 (depT t))])) ?_ t
  clear t
  intro op n s k C N W Q m ok K G hG e ih hl
  have l4 : ∀ i, i < m → nodesT (K i) ≤ 1000000 := fun i hi => by
    rw [nodesT_nd] at hl
    have := sumF_one (f := fun i => nodesT (K i)) hi; omega
  have l2 : m ≤ 1000000 := by
    rw [nodesT_nd] at hl
    have := sumF_ge (f := fun i => nodesT (K i)) (fun i => nodesT_pos _) m; omega
  have hc := Nat.le_trans (cntT_le _) hl
  have hd := Nat.le_trans (depT_le _) hl
  rw [e]
  rw [cntT_nd] at hc ⊢
  rw [depT_nd] at hd ⊢
  clear e
  refine vfunO (Tf := fun {_} _ => fzT [1] (T ())) (fun {_} => tabOk.frz [1]) [] 400 Tryz.func11 rfl (fun {_} => by kernel_rfl) rfl (Nat.le_of_ble_eq_true rfl) @fun ⟨_, _, _, _, _, _, _, _, _, _, _, _, _, _, _, _, _, _, _, _, _, _, _, _, _, _, _, _, _, _, _, _, _, _, _, _, _, _, wp, wf⟩ R hR => ?_
  cbv
  try simp only [wp, (show ∀ n : Nat, _ = n from fun n => wf.2.2.2.2.2.2.2.2.2.2.2.2.2.1 (Int.ofNat n)), getL, takeL, dropL, TK.isAgg, reduceIte]
  replace hR := fun H => hR _ H (.tup [.d (.int .i64 ((sumF (fun i => cntT (K i)) m + 1 : Nat) : Int)), .d (.int .i64 ((maxF (fun i => depT (K i)) m + 1 : Nat) : Int))]) (.tup2 (.d _) (.d _)) rfl
  obtain ⟨cK, hcK⟩ : ∃ cK : Nat → Nat, ∀ i, cK i = cntT (K i) := ⟨_, fun _ => rfl⟩
  obtain ⟨dK, hdK⟩ : ∃ dK : Nat → Nat, ∀ i, dK i = depT (K i) := ⟨_, fun _ => rfl⟩
  simp only [← hcK, ← hdK] at hc hd hR ih
  clear hcK hdK
  obtain ⟨sF, hsF⟩ : ∃ sF, sF = sumF (fun i => cK i) := ⟨_, rfl⟩
  obtain ⟨dF, hdF⟩ : ∃ dF, dF = maxF (fun i => dK i) := ⟨_, rfl⟩
  have s0 : sF 0 = 0 := by rw [hsF]; rfl
  have d0 : dF 0 = 0 := by rw [hdF]; rfl
  have s1 : ∀ i, sF (i + 1) = sF i + cK i := fun i => by rw [hsF]; rfl
  have d1 : ∀ i, dF (i + 1) = max (dF i) (dK i) := fun i => by rw [hdF]; rfl
  have s2 : ∀ i, i ≤ m → sF i ≤ sF m := fun i h => by rw [hsF]; exact sumF_le h
  have d2 : ∀ i, i ≤ m → dF i ≤ dF m := fun i h => by rw [hdF]; exact maxF_le h
  rw [← hsF] at hc hR
  rw [← hdF] at hd hR
  clear hsF hdF
  obtain ⟨nF, hnF⟩ : ∃ nF : Nat → Nat, ∀ i, nF i = 1 + sF i := ⟨_, fun _ => rfl⟩
  refine loopO (Tf := fun {_} _ => fzT [1] (T ())) (fun {_} => tabOk.frz [1]) [] 400 (fun i : Nat => ⟨[.undef, .iptr (fun x j => getL [.int .i64 op, .int .i64 n, .str s, .sl k 2 (lsF C N W Q), .sl m 5 G] j .nilp) 0 0 5, .d (.int .i64 0), .d (.int .i64 0), .d (.int .i64 (nF i : Nat)), .d (.int .i64 (dF i : Nat)), .d (.int .i64 i), .undef, .undef, .undef, .undef, .undef, .undef, .undef, .undef, .undef, .undef, .undef, .undef, .undef, .undef, .undef, .undef, .undef, .undef, .undef, .undef, .undef, .undef, .undef, .undef, .undef, .undef, .undef], []⟩) (fun i => m - i) (fun i => i ≤ m) 0 (Nat.zero_le _) (fun {_} => by kernel_rfl) ?_ (fun i => by kernel_rfl) @fun ⟨_, _, _, _, _, _, _, _, _, _, _, _, _, _, _, _, _, _, _, _, _, _, _, _, _, _, _, _, _, _, _, _, _, _, _, _, _, _, wpa, wfa⟩ i Bk hi hBk => ?_
  · (cbv; try simp only [wf, exD, exL, exT, exB, exA, leLs, leL_d, leL_undef, leL_nils, leA_nils, deq_refl, deq_int, deq_bool, deq_str, and_true, true_and, AObj.iter.injEq, nc, nc']; try simp (disch := omega) only [w64, w32, wu8])
    rw [hnF, s0, d0]
    exact ⟨rfl, rfl, rfl⟩
  (cbv; try simp only [wp, (show ∀ n : Nat, _ = n from fun n => wf.2.2.2.2.2.2.2.2.2.2.2.2.2.1 (Int.ofNat n)), (show _ = (0 : Nat) from wf.2.2.2.2.2.2.2.2.2.2.2.2.2.1 0), wpa, (show ∀ n : Nat, _ = n from fun n => wfa.2.2.2.2.2.2.2.2.2.2.2.2.2.1 (Int.ofNat n)), (show _ = (0 : Nat) from wfa.2.2.2.2.2.2.2.2.2.2.2.2.2.1 0), getL, takeL, dropL, TK.isAgg, reduceIte])
  refine ⟨fun e1 => ?_, fun e1 => ?_⟩
  · have e1 : i < m := (by (try simp only [wf, wfa, nc, nc', Int.toNat_natCast, bsz, ByteArray.size_append, List.length_cons, List.length_nil] at *); (try simp (disch := omega) only [w64, w32, wu8] at *); first | done | omega)
    have ihi := ih i e1 (l4 i e1)
    rw [hG i e1] at ihi
    have q1 := s1 i
    have q2 := d1 i
    have q3 := s2 (i + 1) e1
    have q4 := d2 (i + 1) e1
    have q5 := hnF i
    have q6 := hnF (i + 1)
    (refine Later.mk ?_; cbv; try simp only [wp, (show ∀ n : Nat, _ = n from fun n => wf.2.2.2.2.2.2.2.2.2.2.2.2.2.1 (Int.ofNat n)), (show _ = (0 : Nat) from wf.2.2.2.2.2.2.2.2.2.2.2.2.2.1 0), wpa, (show ∀ n : Nat, _ = n from fun n => wfa.2.2.2.2.2.2.2.2.2.2.2.2.2.1 (Int.ofNat n)), (show _ = (0 : Nat) from wfa.2.2.2.2.2.2.2.2.2.2.2.2.2.1 0), getL, takeL, dropL, TK.isAgg, reduceIte])
    repeat' first | with_reducible refine And.intro ?_ ?_ | intro c9
    all_goals first | exact (by (try simp only [wf, wfa, nc, nc', Int.toNat_natCast, bsz, ByteArray.size_append, List.length_cons, List.length_nil] at *); (try simp (disch := omega) only [w64, w32, wu8] at *); first | done | omega) | trivial | skip
    refine ihi.call ?_
    rintro _ rfl
    (cbv; try simp only [wp, (show ∀ n : Nat, _ = n from fun n => wf.2.2.2.2.2.2.2.2.2.2.2.2.2.1 (Int.ofNat n)), (show _ = (0 : Nat) from wf.2.2.2.2.2.2.2.2.2.2.2.2.2.1 0), wpa, (show ∀ n : Nat, _ = n from fun n => wfa.2.2.2.2.2.2.2.2.2.2.2.2.2.1 (Int.ofNat n)), (show _ = (0 : Nat) from wfa.2.2.2.2.2.2.2.2.2.2.2.2.2.1 0), getL, takeL, dropL, TK.isAgg, reduceIte])
    repeat' first | with_reducible refine And.intro ?_ ?_ | intro c9
    all_goals first | exact (by (try simp only [wf, wfa, nc, nc', Int.toNat_natCast, bsz, ByteArray.size_append, List.length_cons, List.length_nil] at *); (try simp (disch := omega) only [w64, w32, wu8] at *); first | done | omega) | trivial | skip
    all_goals
      refine hBk (i + 1) _ (by omega) (by omega) ?_
      (cbv; try simp only [wf, wfa, exD, exL, exT, exB, exA, leLs, leL_d, leL_undef, leL_nils, leA_nils, deq_refl, deq_int, deq_bool, deq_str, and_true, true_and, AObj.iter.injEq, nc, nc']; try simp (disch := omega) only [w64, w32, wu8])
      ((try simp only [wf, wfa, nc, nc', Int.toNat_natCast, bsz, ByteArray.size_append, List.length_cons, List.length_nil] at *); (try simp (disch := omega) only [w64, w32, wu8] at *))
      exact ⟨by omega, by split <;> omega, by omega⟩
  · obtain rfl : i = m := (by (try simp only [wf, wfa, nc, nc', Int.toNat_natCast, bsz, ByteArray.size_append, List.length_cons, List.length_nil] at *); (try simp (disch := omega) only [w64, w32, wu8] at *); first | done | omega)
    (refine Later.mk ?_; cbv; try simp only [wp, (show ∀ n : Nat, _ = n from fun n => wf.2.2.2.2.2.2.2.2.2.2.2.2.2.1 (Int.ofNat n)), (show _ = (0 : Nat) from wf.2.2.2.2.2.2.2.2.2.2.2.2.2.1 0), wpa, (show ∀ n : Nat, _ = n from fun n => wfa.2.2.2.2.2.2.2.2.2.2.2.2.2.1 (Int.ofNat n)), (show _ = (0 : Nat) from wfa.2.2.2.2.2.2.2.2.2.2.2.2.2.1 0), getL, takeL, dropL, TK.isAgg, reduceIte])
    ((try simp only [wf, wfa, nc, nc', Int.toNat_natCast, bsz, ByteArray.size_append, List.length_cons, List.length_nil] at *); (try simp (disch := omega) only [w64, w32, wu8] at *))
    rw [hnF, Nat.add_comm 1]
    exact hR _
end Go.VM

namespace Go.VM
open Go.Proofs Go
set_option maxRecDepth 100000
set_option linter.unusedVariables false
set_option linter.unusedSimpArgs false
/-- a list of terms, each of at most 400 nodes -/
theorem heavyW (m : Nat) (G : Nat → Nat → D) (K : Nat → Tm) (hm : m < 2 ^ 63) (hG : ∀ i, i < m → tm (K i) = kid G i) : VFun (P ()) 9 [.d (.sl m 5 G)] (fun r => ∃ b : Bool, (b = false → m ≤ 40 ∧ ∀ i, i < m → Light (K i) 400) ∧ r = .d (.bool b)) := by
  refine vfunO (Tf := fun {_} _ => fzT [] (T ())) (fun {_} => tabOk.frz []) [] 400 Tryz.func9 rfl (fun {_} => by kernel_rfl) rfl (Nat.le_of_ble_eq_true rfl) @fun ⟨_, _, _, _, _, _, _, _, _, _, _, _, _, _, _, _, _, _, _, _, _, _, _, _, _, _, _, _, _, _, _, _, _, _, _, _, _, _, wp, wf⟩ R hR => ?_
  cbv
  try simp only [wp, (show ∀ n : Nat, _ = n from fun n => wf.2.2.2.2.2.2.2.2.2.2.2.2.2.1 (Int.ofNat n)), getL, takeL, dropL, TK.isAgg, reduceIte]
  replace hR := fun b H h => hR _ H (.d (.bool b)) (.d _) ⟨b, h, rfl⟩
  refine loopO (Tf := fun {_} _ => fzT [] (T ())) (fun {_} => tabOk.frz []) [] 400 (fun i : Nat => ⟨[.d (.sl m 5 G), .undef, .d (.bool false), .d (.int .i64 i), .undef, .undef, .undef, .undef, .undef, .undef, .undef, .undef, .undef, .undef, .undef, .undef, .undef, .undef, .undef], []⟩) (fun i => m - i) (fun i => i ≤ m ∧ i ≤ 40 ∧ ∀ j, j < i → Light (K j) 400) 0 ⟨Nat.zero_le _, Nat.zero_le _, fun j hj => absurd hj (Nat.not_lt_zero _)⟩ (fun {_} => by kernel_rfl) ?_ (fun i => by kernel_rfl) @fun ⟨_, _, _, _, _, _, _, _, _, _, _, _, _, _, _, _, _, _, _, _, _, _, _, _, _, _, _, _, _, _, _, _, _, _, _, _, _, _, wpa, wfa⟩ i Bk hi hBk => ?_
  · ((cbv; try simp only [wf, exD, exL, exT, exB, exA, leLs, leL_d, leL_undef, leL_nils, leA_nils, deq_refl, deq_int, deq_bool, deq_str, and_true, true_and, AObj.iter.injEq, nc, nc']; try simp (disch := omega) only [w64, w32, wu8]); first | done | rfl | omega | (simp; done) | (simp; omega) | skip)
  obtain ⟨i1, i3, i2⟩ := hi
  (cbv; try simp only [wp, (show ∀ n : Nat, _ = n from fun n => wf.2.2.2.2.2.2.2.2.2.2.2.2.2.1 (Int.ofNat n)), (show _ = (0 : Nat) from wf.2.2.2.2.2.2.2.2.2.2.2.2.2.1 0), wpa, (show ∀ n : Nat, _ = n from fun n => wfa.2.2.2.2.2.2.2.2.2.2.2.2.2.1 (Int.ofNat n)), (show _ = (0 : Nat) from wfa.2.2.2.2.2.2.2.2.2.2.2.2.2.1 0), getL, takeL, dropL, TK.isAgg, reduceIte])
  refine ⟨fun e1 => ?_, fun e1 => ?_⟩
  · have e1 : i < m := (by (try simp only [wf, wfa, nc, nc', Int.toNat_natCast, bsz, ByteArray.size_append, List.length_cons, List.length_nil] at *); (try simp (disch := omega) only [w64, w32, wu8] at *); first | done | omega)
    have hi := Heavy (K i) 400 (by decide)
    rw [hG i e1] at hi
    (refine Later.mk ?_; cbv; try simp only [wp, (show ∀ n : Nat, _ = n from fun n => wf.2.2.2.2.2.2.2.2.2.2.2.2.2.1 (Int.ofNat n)), (show _ = (0 : Nat) from wf.2.2.2.2.2.2.2.2.2.2.2.2.2.1 0), wpa, (show ∀ n : Nat, _ = n from fun n => wfa.2.2.2.2.2.2.2.2.2.2.2.2.2.1 (Int.ofNat n)), (show _ = (0 : Nat) from wfa.2.2.2.2.2.2.2.2.2.2.2.2.2.1 0), getL, takeL, dropL, TK.isAgg, reduceIte])
    repeat' first | (with_reducible refine And.intro ?_ ?_) | intro c9 | (refine Later.mk ?_; cbv; try simp only [wp, (show ∀ n : Nat, _ = n from fun n => wf.2.2.2.2.2.2.2.2.2.2.2.2.2.1 (Int.ofNat n)), (show _ = (0 : Nat) from wf.2.2.2.2.2.2.2.2.2.2.2.2.2.1 0), wpa, (show ∀ n : Nat, _ = n from fun n => wfa.2.2.2.2.2.2.2.2.2.2.2.2.2.1 (Int.ofNat n)), (show _ = (0 : Nat) from wfa.2.2.2.2.2.2.2.2.2.2.2.2.2.1 0), getL, takeL, dropL, TK.isAgg, reduceIte])
    all_goals first
      | exact (by (try simp only [wf, wfa, nc, nc', Int.toNat_natCast, bsz, ByteArray.size_append, List.length_cons, List.length_nil] at *); (try simp (disch := omega) only [w64, w32, wu8] at *); first | done | omega)
      | exact hR true _ (fun h => by cases h)
      | (refine hi.call ?_
         rintro _ ⟨b, hb, rfl⟩
         cases b <;> (cbv; try simp only [wp, (show ∀ n : Nat, _ = n from fun n => wf.2.2.2.2.2.2.2.2.2.2.2.2.2.1 (Int.ofNat n)), (show _ = (0 : Nat) from wf.2.2.2.2.2.2.2.2.2.2.2.2.2.1 0), wpa, (show ∀ n : Nat, _ = n from fun n => wfa.2.2.2.2.2.2.2.2.2.2.2.2.2.1 (Int.ofNat n)), (show _ = (0 : Nat) from wfa.2.2.2.2.2.2.2.2.2.2.2.2.2.1 0), getL, takeL, dropL, TK.isAgg, reduceIte]) <;> (refine Later.mk ?_; cbv; try simp only [wp, (show ∀ n : Nat, _ = n from fun n => wf.2.2.2.2.2.2.2.2.2.2.2.2.2.1 (Int.ofNat n)), (show _ = (0 : Nat) from wf.2.2.2.2.2.2.2.2.2.2.2.2.2.1 0), wpa, (show ∀ n : Nat, _ = n from fun n => wfa.2.2.2.2.2.2.2.2.2.2.2.2.2.1 (Int.ofNat n)), (show _ = (0 : Nat) from wfa.2.2.2.2.2.2.2.2.2.2.2.2.2.1 0), getL, takeL, dropL, TK.isAgg, reduceIte])
         · refine hBk (i + 1) _ (by omega) ⟨by omega, (by clear hR hBk; exact (by (try simp only [wf, wfa, nc, nc', Int.toNat_natCast, bsz, ByteArray.size_append, List.length_cons, List.length_nil] at *); (try simp (disch := omega) only [w64, w32, wu8] at *); first | done | omega)), fun j hj => ?_⟩ ?_
           · by_cases ej : j = i
             · subst ej; exact hb.1 rfl
             · exact i2 j (by omega)
           · ((cbv; try simp only [wf, wfa, exD, exL, exT, exB, exA, leLs, leL_d, leL_undef, leL_nils, leA_nils, deq_refl, deq_int, deq_bool, deq_str, and_true, true_and, AObj.iter.injEq, nc, nc']; try simp (disch := omega) only [w64, w32, wu8]); first | done | rfl | omega | (simp; done) | (simp; omega) | skip)
         · exact hR true _ (fun h => by cases h))
  · obtain rfl : i = m := (by (try simp only [wf, wfa, nc, nc', Int.toNat_natCast, bsz, ByteArray.size_append, List.length_cons, List.length_nil] at *); (try simp (disch := omega) only [w64, w32, wu8] at *); first | done | omega)
    (refine Later.mk ?_; cbv; try simp only [wp, (show ∀ n : Nat, _ = n from fun n => wf.2.2.2.2.2.2.2.2.2.2.2.2.2.1 (Int.ofNat n)), (show _ = (0 : Nat) from wf.2.2.2.2.2.2.2.2.2.2.2.2.2.1 0), wpa, (show ∀ n : Nat, _ = n from fun n => wfa.2.2.2.2.2.2.2.2.2.2.2.2.2.1 (Int.ofNat n)), (show _ = (0 : Nat) from wfa.2.2.2.2.2.2.2.2.2.2.2.2.2.1 0), getL, takeL, dropL, TK.isAgg, reduceIte])
    exact hR false _ (fun _ => ⟨i3, i2⟩)
end Go.VM

namespace Go.VM
open Go.Proofs Go
set_option maxRecDepth 100000
set_option linter.unusedVariables false
set_option linter.unusedSimpArgs false
theorem FreeT (t : Tm) (hs : 4 * nodesT t ≤ 4194304) : VFun (P ()) 20 [tm t] (fun r => r = .d (.int .i64 (freeT t 0))) := by
  have hw := mappedF t 0 hs (by decide) (by decide)
  have hx : runT stFr t 0 0 = freeT t 0 := by rw [runT_fr _ _ _ (by decide)]; have := freeT_ge t 0; omega
  rw [hx] at hw
  clear hx
  unfold tm at hw ⊢
  obtain ⟨f, hf⟩ : ∃ f, f = tmD t := ⟨_, rfl⟩
  obtain ⟨g, hg⟩ : ∃ g, g = freeT t 0 := ⟨_, rfl⟩
  rw [← hf, ← hg] at hw ⊢
  clear hf hg
  refine vfunL (Tf := fun {_} _ => fzT [1] (T ())) (fun {_} => tabOk.frz [1]) [] 400 Tryz.func20 rfl (fun {_} => by kernel_rfl) rfl (Nat.le_of_ble_eq_true rfl) @fun ⟨_, _, _, _, _, _, _, _, _, _, _, _, _, _, _, _, _, _, _, _, _, _, _, _, _, _, _, _, _, _, _, _, _, _, _, _, _, _, wp, wf⟩ R hR => ?_
  cbv
  try simp only [wp, (show ∀ n : Nat, _ = n from fun n => wf.2.2.2.2.2.2.2.2.2.2.2.2.2.1 (Int.ofNat n)), getL, takeL, dropL, TK.isAgg, reduceIte]
  repeat' first | (with_reducible refine And.intro ?_ ?_) | intro c9 | trivial | (refine Later.mk ?_; cbv; try simp only [wp, (show ∀ n : Nat, _ = n from fun n => wf.2.2.2.2.2.2.2.2.2.2.2.2.2.1 (Int.ofNat n)), (show _ = (0 : Nat) from wf.2.2.2.2.2.2.2.2.2.2.2.2.2.1 0), getL, takeL, dropL, TK.isAgg, reduceIte])
  refine CallW.within hw [0] rfl ⟨rfl, trivial⟩ rfl ?_
  rintro _ _ ⟨K2, rfl, rfl⟩
  refine ⟨hpF1 g, K2, rfl, Nat.le_refl _, ⟨trivial, trivial⟩, rfl, ?_⟩
  (cbv; try simp only [wp, (show ∀ n : Nat, _ = n from fun n => wf.2.2.2.2.2.2.2.2.2.2.2.2.2.1 (Int.ofNat n)), (show _ = (0 : Nat) from wf.2.2.2.2.2.2.2.2.2.2.2.2.2.1 0), getL, takeL, dropL, TK.isAgg, reduceIte])
  repeat' first | (with_reducible refine And.intro ?_ ?_) | intro c9 | trivial | (refine Later.mk ?_; cbv; try simp only [wp, (show ∀ n : Nat, _ = n from fun n => wf.2.2.2.2.2.2.2.2.2.2.2.2.2.1 (Int.ofNat n)), (show _ = (0 : Nat) from wf.2.2.2.2.2.2.2.2.2.2.2.2.2.1 0), getL, takeL, dropL, TK.isAgg, reduceIte])
  all_goals exact hR _ _ _ (.d _) rfl
end Go.VM

namespace Go.VM
open Go
set_option linter.unusedVariables false
set_option linter.unusedSimpArgs false
theorem foldF_le {a : Nat → Int} {r y : Int} : ∀ {m : Nat}, y ≤ r → (∀ i, i < m → a i ≤ r) → foldF (fun i z => max z (a i)) m y ≤ r
  | 0, h, _ => h
  | m + 1, h, h' => by
    have h1 := foldF_le (m := m) h fun i hi => h' i (by omega)
    have h2 := h' m (by omega)
    simp only [foldF]
    omega
theorem foldF_in {a : Nat → Int} {y : Int} : ∀ {m i : Nat}, i < m → a i ≤ foldF (fun i z => max z (a i)) m y
  | m + 1, i, h => by
    simp only [foldF]
    by_cases e : i = m
    · subst e; omega
    · have := foldF_in (a := a) (y := y) (m := m) (i := i) (by omega)
      omega
section
variable {op n : Int} {s : ByteArray} {k : Nat} {C : Nat → Int} {N : Nat → Nat} {W Q : Nat → Nat → Int} {m : Nat} {ok : TmOk op n s k N m} {K : Nat → Tm}
theorem free_kid (d : Int) {i : Nat} (hi : i < m) : freeT (K i) (d + bindI op m i) ≤ freeT (.nd op n s k C N W Q m ok K) d := by
  rw [freeT_nd]
  exact foldF_in (a := fun i => freeT (K i) (d + bindI op m i)) hi
theorem free_here (d : Int) (hv : IsV op n) : n - d + 1 ≤ freeT (.nd op n s k C N W Q m ok K) d := by
  rw [freeT_nd, if_pos hv]
  have := foldF_ge (a := fun i => freeT (K i) (d + bindI op m i)) (max 0 (n - d + 1)) m
  omega
theorem free_bound (d r : Int) (h : IsV op n → n - d + 1 ≤ r) (h0 : 0 ≤ r) (hk : ∀ i : Nat, i < m → freeT (K i) (d + bindI op m i) ≤ r) : freeT (.nd op n s k C N W Q m ok K) d ≤ r := by
  rw [freeT_nd]
  refine foldF_le (a := fun i => freeT (K i) (d + bindI op m i)) ?_ hk
  split
  · rename_i hv; have := h hv; omega
  · exact h0
end
theorem free_sh (a : Int) (ha : 0 ≤ a) (x : Tm) : ∀ e, freeT (mapT (fSh a 0) x e) (a + e) ≤ freeT x e := by
  refine Tm.walk (P := fun x => ∀ e, freeT (mapT (fSh a 0) x e) (a + e) ≤ freeT x e) ?_ x
  intro op n s k C N W Q m ok K G _ _ ih e
  rw [sh_nd]
  refine free_bound _ _ (fun hv => ?_) (freeT_ge _ _) fun i hi => ?_
  · unfold shN at hv ⊢
    split
    · rename_i h
      have := free_here (op := op) (n := n) (s := s) (k := k) (C := C) (N := N) (W := W) (Q := Q) (m := m) (ok := ok) (K := K) e h.1
      have h1 := h.1.2
      unfold clampI
      split
      · omega
      · have := freeT_ge (.nd op n s k C N W Q m ok K) e
        omega
    · rename_i h
      rw [if_neg h] at hv
      have := freeT_ge (.nd op n s k C N W Q m ok K) e
      have : ¬ 0 ≤ n - e := fun h' => h ⟨hv, h'⟩
      omega
  · have h1 := ih i hi (e + bindI op m i)
    have h2 := free_kid (op := op) (n := n) (s := s) (k := k) (C := C) (N := N) (W := W) (Q := Q) (ok := ok) (K := K) e hi
    rw [show a + e + bindI op m i = a + (e + bindI op m i) by omega]
    omega
/-- how far the free variables of a filled term reach -/
theorem free_fl (len : Nat) (B : Nat → Tm) (r : Int) (h0 : 0 ≤ r) (hB : ∀ i, i < len → freeT (B i) 0 ≤ r) (x : Tm) : ∀ d, 0 ≤ d → freeT x d - len ≤ r → freeT (mapT (fFl len B) x d) d ≤ r := by
  refine Tm.walk (P := fun x => ∀ d, 0 ≤ d → freeT x d - len ≤ r → freeT (mapT (fFl len B) x d) d ≤ r) ?_ x
  intro op n s k C N W Q m ok K G _ _ ih d hd hr
  have hk : ∀ i : Nat, i < m → freeT (mapT (fFl len B) (K i) (d + bindI op m i)) (d + bindI op m i) ≤ r := fun i hi => by
    have h2 := free_kid (op := op) (n := n) (s := s) (k := k) (C := C) (N := N) (W := W) (Q := Q) (ok := ok) (K := K) d hi
    exact ih i hi _ (by have := bindI_le op m i; omega) (by omega)
  by_cases hv : IsV op n
  · have hh := free_here (op := op) (n := n) (s := s) (k := k) (C := C) (N := N) (W := W) (Q := Q) (m := m) (ok := ok) (K := K) d hv
    have hv2 := hv.2
    by_cases h1 : n - d < 0
    · rw [fl_out len B d (fun _ => h1)]
      exact free_bound _ _ (fun _ => by omega) h0 hk
    · by_cases h2 : n - d < len
      · rw [fl_in len B d hv (by omega) h2]
        have h3 := free_sh d hd (B (n - d).toNat) 0
        rw [Int.add_zero] at h3
        have := hB (n - d).toNat (by omega)
        omega
      · rw [fl_over len B d hv (by omega) ⟨ok.op, by omega, ok.s, ok.k, ok.N, ok.m⟩]
        exact free_bound _ _ (fun _ => by omega) h0 hk
  · rw [fl_out len B d (fun h => absurd h hv)]
    exact free_bound _ _ (fun h => absurd h hv) h0 hk
end Go.VM
