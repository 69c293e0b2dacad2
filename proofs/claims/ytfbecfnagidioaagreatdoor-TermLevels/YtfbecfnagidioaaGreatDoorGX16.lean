/- Part of the proof: TT49, TT50, LevShelf, LT2, TT41. -/
import Derived.Shelf.LaysM
import Derived.Shelf.Sort.Plain
import Derived.Ground.Names2Prog
import Derived.Shelf.Slices.CompactI
import Derived.Test.YtfbecfnagidioaaGreatDoorProg
import Derived.Test.YtfbecfnagidioaaGreatDoorGX15
import Derived.Test.YtfbecfnagidioaaGreatDoorGV5
import Derived.Test.YtfbecfnagidioaaGreatDoorGX14
namespace Go.VM
open Go.Proofs Go
set_option maxRecDepth 100000
set_option linter.unusedVariables false
set_option linter.unusedSimpArgs false
structure Cy where
  i : Nat
  a : Nat
  V : Nat → Int
/-- ascending numbers, old ones and those of a set -/
def AscB (V : Nat → Int) (a : Nat) (S : Int → Prop) (V' : Nat → Int) (a' b : Nat) : Prop := (numsL V' a').Pairwise (· < ·) ∧ (∀ v, v ∈ numsL V' a' ↔ v ∈ numsL V a ∨ S v) ∧ a' ≤ a + b
structure Dy where
  i : Nat
  a : Nat
  V : Nat → Int
  z : Nat
  S : Nat → ByteArray
  b : Nat
  X : Nat → Int
theorem AscB.start {V : Nat → Int} {a : Nat} {M : Nat → Int → Prop} (h : (numsL V a).Pairwise (· < ·)) : AscB V a (fun v => ∃ i, i < 0 ∧ M i v) V a 0 :=
  ⟨h, fun v => ⟨.inl, fun h => h.elim id fun ⟨i, hi, _⟩ => absurd hi (Nat.not_lt_zero _)⟩, Nat.le_refl _⟩
theorem AscB.next {V V2 V3 : Nat → Int} {a a2 a3 : Nat} {M : Nat → Int → Prop} {nk : Nat → Nat} {i : Nat} (h : AscB V a (fun v => ∃ j, j < i ∧ M j v) V2 a2 (sumF nk i)) (h' : AscB V2 a2 (M i) V3 a3 (nk i)) (_ : Nat) : AscB V a (fun v => ∃ j, j < i + 1 ∧ M j v) V3 a3 (sumF nk (i + 1)) := by
  obtain ⟨_, h2, h3⟩ := h
  obtain ⟨g1, g2, g3⟩ := h'
  refine ⟨g1, fun v => (g2 v).trans ((or_congr (h2 v) Iff.rfl).trans ?_), by simp only [sumF]; omega⟩
  constructor
  · rintro ((h | ⟨j, h4, h5⟩) | h)
    · exact .inl h
    · exact .inr ⟨j, by omega, h5⟩
    · exact .inr ⟨i, Nat.lt_succ_self _, h⟩
  · rintro (h | ⟨j, h4, h5⟩)
    · exact .inl (.inl h)
    · by_cases ej : j = i
      · subst ej; exact .inr h5
      · exact .inl (.inr ⟨j, by omega, h5⟩)
theorem AscB.both {V V2 V3 : Nat → Int} {a a2 a3 b b' c : Nat} {M M' : Int → Prop} (h : AscB V a M V2 a2 b) (h' : AscB V2 a2 M' V3 a3 b') (hc : b + b' ≤ c) : AscB V a (fun v => M v ∨ M' v) V3 a3 c := by
  obtain ⟨_, h2, h3⟩ := h
  obtain ⟨g1, g2, g3⟩ := h'
  exact ⟨g1, fun v => (g2 v).trans ((or_congr (h2 v) Iff.rfl).trans or_assoc), by omega⟩
/-- what is collected -/
def ColR (V : Nat → Int) (a : Nat) (S : Nat → ByteArray) (z : Nat) (X : Nat → Int) (b : Nat) (M1 : Int → Prop) (f : List ByteArray → List ByteArray) (M2 : Int → Prop) (k : Nat) (V' : Nat → Int) (a' : Nat) (S' : Nat → ByteArray) (z' : Nat) (X' : Nat → Int) (b' : Nat) : Prop :=
  AscB V a M1 V' a' k ∧ textL S' z' = f (textL S z) ∧ AscB X b M2 X' b' k
set_option maxHeartbeats 400000 in
theorem collR (t : Tm) : nodesT t ≤ 400000 → ∀ (V : Nat → Int) (a : Nat) (S : Nat → ByteArray) (z : Nat) (X : Nat → Int) (b : Nat), a + nodesT t ≤ 2 ^ 28 → z + nodesT t ≤ 2 ^ 28 → b + nodesT t ≤ 2 ^ 28 → (numsL V a).Pairwise (· < ·) → (numsL X b).Pairwise (· < ·) →
    VCalls (P ()) 56 [tm t, .d (.sl a 1 (nuF V)), .ref 0 0 z 1, .d (.sl b 1 (nuF X))] [.arr z 1 (stF S) z] (fun r H => ∃ V' a' S' z' X' b', ColR V a S z X b (memV t) (nmsT t) (memH t) (nodesT t) V' a' S' z' X' b' ∧
      r = .tup [.d (.sl a' 1 (nuF V')), .ref 0 0 z' 1, .d (.sl b' 1 (nuF X'))] ∧ H = [.arr z' 1 (stF S') z']) := by
  refine Tm.walk (P := fun t => nodesT t ≤ 400000 → ∀ (V : Nat → Int) (a : Nat) (S : Nat → ByteArray) (z : Nat) (X : Nat → Int) (b : Nat), a + nodesT t ≤ 2 ^ 28 → z + nodesT t ≤ 2 ^ 28 → b + nodesT t ≤ 2 ^ 28 → (numsL V a).Pairwise (· < ·) → (numsL X b).Pairwise (· < ·) →
    VCalls (P ()) 56 [tm t, .d (.sl a 1 (nuF V)), .ref 0 0 z 1, .d (.sl b 1 (nuF X))] [.arr z 1 (stF S) z] (fun r H => ∃ V' a' S' z' X' b', ColR V a S z X b (memV t) (nmsT t) (memH t) (nodesT t) V' a' S' z' X' b' ∧
      r = .tup [.d (.sl a' 1 (nuF V')), .ref 0 0 z' 1, .d (.sl b' 1 (nuF X'))] ∧ H = [.arr z' 1 (stF S') z'])) ?_ t
  clear t
  intro op n s k C N W Q m ok K G hG e ih hs V a S z X b ha hz hb pV pX
  rw [nodesT_nd] at hs ha hz hb
  have b1 := sumF_ge (f := fun i => 1 + N i) (fun i => by omega) k
  have b2 := sumF_ge (f := fun i => nodesT (K i)) (fun i => nodesT_pos _) m
  have b3 : ∀ i, i < k → N i ≤ 400000 := fun i hi => by have := sumF_one (f := fun i => 1 + N i) hi; omega
  have b4 : ∀ i, i < m → nodesT (K i) ≤ 400000 := fun i hi => by have := sumF_one (f := fun i => nodesT (K i)) hi; omega
  have b5 : k ≤ 400000 ∧ m ≤ 400000 := ⟨by omega, by omega⟩
  have b6 : sumF N k ≤ sumF (fun i => 1 + N i) k := sumF_mono fun i _ => by omega
  rw [e]
  refine VCalls.ice2 (R1 := fun r H => ∃ V' a' S' z' X' b', ColR V a S z X b (memV (.nd op n s k C N W Q m ok K)) (nmsT (.nd op n s k C N W Q m ok K)) (memH (.nd op n s k C N W Q m ok K)) (nodesT (.nd op n s k C N W Q m ok K)) V' a' S' z' X' b' ∧
      ∃ g f K2, (∀ i, i < z' → g i 0 = .str (S' i)) ∧ f ≤ z' ∧ r = .tup [.d (.sl a' 1 (nuF V')), .ref 0 0 z' 1, .d (.sl b' 1 (nuF X'))] ∧ H = [.arr z' 1 g f] ++ K2) ?_ rfl rfl rfl rfl fun r H' h => by
    obtain ⟨V', a', S', z', X', b', h1, g, f, K2, h0, hf, rfl, rfl⟩ := h
    exact ⟨_, [.arr z' 1 (stF S') z'], fun {_ _} => ⟨⟨_, _, rfl, hf, Nat.le_refl _, fun i j hi hj => .of_eq (by
      obtain rfl : j = 0 := by omega
      exact h0 i hi)⟩, trivial⟩, rfl, .keep _ (belA_ok rfl), rfl, rfl, V', a', S', z', X', b', h1, rfl, rfl⟩
  obtain ⟨nk, hnk⟩ : ∃ f : Nat → Nat, f = fun i => nodesT (K i) := ⟨_, rfl⟩
  obtain ⟨M, hM⟩ : ∃ f : Nat → List ByteArray → List ByteArray, f = fun i z => nmsT (K i) z := ⟨_, rfl⟩
  obtain ⟨M1, hM1⟩ : ∃ f : Nat → Int → Prop, f = fun i => memV (K i) := ⟨_, rfl⟩
  obtain ⟨M2, hM2⟩ : ∃ f : Nat → Int → Prop, f = fun i => memH (K i) := ⟨_, rfl⟩
  obtain ⟨q1, hq1⟩ : ∃ q, q = sumF (fun i => 1 + N i) k := ⟨_, rfl⟩
  have hv := fun i hi => RVars (C i) (N i) (W i) (Q i) (by have := b3 i hi; omega)
  have ih' : ∀ i, i < m → ∀ (V : Nat → Int) (a : Nat) (S : Nat → ByteArray) (z : Nat) (X : Nat → Int) (b : Nat), a + nk i ≤ 2 ^ 28 → z + nk i ≤ 2 ^ 28 → b + nk i ≤ 2 ^ 28 → (numsL V a).Pairwise (· < ·) → (numsL X b).Pairwise (· < ·) →
    VCalls (P ()) 56 [kid G i, .d (.sl a 1 (nuF V)), .ref 0 0 z 1, .d (.sl b 1 (nuF X))] [.arr z 1 (stF S) z] (fun r H => ∃ V' a' S' z' X' b', ColR V a S z X b (M1 i) (M i) (M2 i) (nk i) V' a' S' z' X' b' ∧
      r = .tup [.d (.sl a' 1 (nuF V')), .ref 0 0 z' 1, .d (.sl b' 1 (nuF X'))] ∧ H = [.arr z' 1 (stF S') z']) := fun i hi V a S z X b h1 h2 h3 h4 h5 => by
    rw [hnk] at h1 h2 h3
    have := ih i hi (b4 i hi) V a S z X b h1 h2 h3 h4 h5
    rw [hG i hi] at this
    rw [hnk, hM, hM1, hM2]; exact this
  have hML : ∀ i z, i < m → z.length ≤ (M i z).length ∧ (M i z).length ≤ z.length + nk i := fun i z _ => by rw [hM, hnk]; exact nmsT_len _ _
  refine VCalls_of_Wl (Tf := fun {_} _ => fzT [4] (T ())) (fun {_} => tabOk.frz [4]) [] 400 Tryz.func56 rfl (fun {_} => by kernel_rfl) (Nat.le_of_ble_eq_true rfl) @fun ⟨_, _, _, _, _, _, _, _, _, _, _, _, _, _, _, _, _, _, _, _, _, _, _, _, _, _, _, _, _, _, _, _, _, _, _, _, _, _, wp, wf⟩ nH R hnH hR => ?_
  subst hnH
  cbv
  try simp only [wp, (show ∀ n : Nat, _ = n from fun n => wf.2.2.2.2.2.2.2.2.2.2.2.2.2.1 (Int.ofNat n)), getL, takeL, dropL, TK.isAgg, reduceIte]
  have hA : ∀ V' a' S' z' X' b' g f K2, AscB V a (fun v => (∃ i, i < k ∧ ∃ j, j < N i ∧ W i j = v) ∨ ∃ i, i < m ∧ M1 i v) V' a' (1 + q1 + sumF nk m) → textL S' z' = foldF M m (addN op s (textL S z)) →
      AscB X b (fun v => (op = 29 ∧ n = v) ∨ ∃ i, i < m ∧ M2 i v) X' b' (1 + q1 + sumF nk m) → (∀ i, i < z' → g i 0 = .str (S' i)) → f ≤ z' → R (.tup [.d (.sl a' 1 (nuF V')), .ref 0 0 z' 1, .d (.sl b' 1 (nuF X'))]) ([.arr z' 1 g f] ++ K2) := fun V' a' S' z' X' b' g f K2 h1 h2 h3 h4 h5 => by
    refine hR _ _ ⟨V', a', S', z', X', b', ⟨?_, ?_, ?_⟩, g, f, K2, h4, h5, rfl, rfl⟩
    · refine ⟨h1.1, fun v => (h1.2.1 v).trans (or_congr Iff.rfl ?_), ?_⟩
      · rw [memV_nd, hM1]
      · rw [nodesT_nd, ← hq1]; have := h1.2.2; rw [hnk] at this; exact this
    · rw [h2, nmsT_nd, hM]
    · refine ⟨h3.1, fun v => (h3.2.1 v).trans (or_congr Iff.rfl ?_), ?_⟩
      · rw [memH_nd, hM2]
      · rw [nodesT_nd, ← hq1]; have := h3.2.2; rw [hnk] at this; exact this
  have hla : a + q1 + 1 + sumF nk m ≤ 2 ^ 28 := by rw [hnk, hq1]; omega
  have hlz : z + q1 + 1 + sumF nk m ≤ 2 ^ 28 := by rw [hnk, hq1]; omega
  have hlb : b + q1 + 1 + sumF nk m ≤ 2 ^ 28 := by rw [hnk, hq1]; omega
  rw [← hq1] at b6
  clear hR ih e hG hnk hM hM1 hM2 hq1 b1 b2 b4 hs ha hz hb
  repeat' first | (with_reducible refine And.intro ?_ ?_) | intro c9 | trivial | (refine Later.mk ?_; cbv; try simp only [wp, (show ∀ n : Nat, _ = n from fun n => wf.2.2.2.2.2.2.2.2.2.2.2.2.2.1 (Int.ofNat n)), (show _ = (0 : Nat) from wf.2.2.2.2.2.2.2.2.2.2.2.2.2.1 0), getL, takeL, dropL, TK.isAgg, reduceIte])
  refine loopL (Tf := fun {_} _ => fzT [4] (T ())) (fun {_} => tabOk.frz [4]) [] 400 (fun y : Cy => ⟨[.undef, .d (.sl y.a 1 (nuF y.V)), .ref 0 0 z 1, .d (.sl b 1 (nuF X)), .iptr (fun x j => getL [.int .i64 op, .int .i64 n, .str s, .sl k 2 (lsF C N W Q), .sl m 5 G] j .nilp) 0 0 5, .undef, .undef, .undef, .nils, .nils, .nils, .d (.int .i64 y.i), .undef, .undef, .undef, .undef, .undef, .undef, .undef, .undef, .undef, .undef, .undef, .undef, .undef, .undef, .undef, .undef, .undef, .undef, .undef, .undef, .undef, .undef, .undef, .undef, .undef, .undef, .undef, .undef, .undef, .undef, .undef, .undef, .undef, .undef, .undef, .undef, .undef, .undef, .undef, .undef, .undef, .undef, .undef, .undef, .undef, .undef, .undef, .undef, .undef, .undef, .undef, .undef, .undef, .undef, .undef, .undef, .undef, .undef, .undef, .undef, .undef, .undef, .undef, .undef, .undef, .undef, .undef, .undef, .undef, .undef, .undef, .undef, .undef], [.arr z 1 (stF S) z]⟩) (fun y => k - y.i) (fun y => y.i ≤ k ∧ AscB V a (fun v => ∃ i, i < y.i ∧ ∃ j, j < N i ∧ W i j = v) y.V y.a (sumF N y.i)) ⟨0, a, V⟩ ⟨Nat.zero_le _, pV, fun v => ⟨.inl, fun h => h.elim id fun ⟨i, hi, _⟩ => absurd hi (Nat.not_lt_zero _)⟩, Nat.le_refl _⟩ (fun {_} => by kernel_rfl) ?_ (fun i => by kernel_rfl) @fun ⟨_, _, _, _, _, _, _, _, _, _, _, _, _, _, _, _, _, _, _, _, _, _, _, _, _, _, _, _, _, _, _, _, _, _, _, _, _, _, wpa, wfa⟩ ⟨i, a1, V1⟩ Bk hi hBk => ?_
  · ((cbv; try simp only [wf, exD, exL, exT, exB, exA, leLs, leL_d, leL_undef, leL_nils, leA_nils, deq_refl, deq_int, deq_bool, deq_str, and_true, true_and, AObj.iter.injEq, nc, nc']; try simp (disch := omega) only [w64, w32, wu8]); first | done | rfl | omega | (simp; done) | (simp; omega) | skip)
  obtain ⟨i1, i2⟩ := hi
  dsimp only at i1 i2
  (cbv; try simp only [wp, (show ∀ n : Nat, _ = n from fun n => wf.2.2.2.2.2.2.2.2.2.2.2.2.2.1 (Int.ofNat n)), (show _ = (0 : Nat) from wf.2.2.2.2.2.2.2.2.2.2.2.2.2.1 0), wpa, (show ∀ n : Nat, _ = n from fun n => wfa.2.2.2.2.2.2.2.2.2.2.2.2.2.1 (Int.ofNat n)), (show _ = (0 : Nat) from wfa.2.2.2.2.2.2.2.2.2.2.2.2.2.1 0), getL, takeL, dropL, TK.isAgg, reduceIte])
  refine ⟨fun e => ?_, fun e => ?_⟩
  · have e : i < k := (by (try simp only [wf, wfa, nc, nc', Int.toNat_natCast, bsz, ByteArray.size_append, List.length_cons, List.length_nil] at *); (try simp (disch := omega) only [w64, w32, wu8] at *); first | done | omega)
    have sN := sumF_one (f := N) e
    have hv := hv i e
    (refine Later.mk ?_; cbv; try simp only [wp, (show ∀ n : Nat, _ = n from fun n => wf.2.2.2.2.2.2.2.2.2.2.2.2.2.1 (Int.ofNat n)), (show _ = (0 : Nat) from wf.2.2.2.2.2.2.2.2.2.2.2.2.2.1 0), wpa, (show ∀ n : Nat, _ = n from fun n => wfa.2.2.2.2.2.2.2.2.2.2.2.2.2.1 (Int.ofNat n)), (show _ = (0 : Nat) from wfa.2.2.2.2.2.2.2.2.2.2.2.2.2.1 0), getL, takeL, dropL, TK.isAgg, reduceIte])
    repeat' first | (with_reducible refine And.intro ?_ ?_) | intro c9 | trivial | (refine Later.mk ?_; cbv; try simp only [wp, (show ∀ n : Nat, _ = n from fun n => wf.2.2.2.2.2.2.2.2.2.2.2.2.2.1 (Int.ofNat n)), (show _ = (0 : Nat) from wf.2.2.2.2.2.2.2.2.2.2.2.2.2.1 0), wpa, (show ∀ n : Nat, _ = n from fun n => wfa.2.2.2.2.2.2.2.2.2.2.2.2.2.1 (Int.ofNat n)), (show _ = (0 : Nat) from wfa.2.2.2.2.2.2.2.2.2.2.2.2.2.1 0), getL, takeL, dropL, TK.isAgg, reduceIte])
    all_goals first | exact Nat.zero_le _ | exact (by (try simp only [wf, wfa, nc, nc', Int.toNat_natCast, bsz, ByteArray.size_append, List.length_cons, List.length_nil] at *); (try simp (disch := omega) only [w64, w32, wu8] at *); first | done | omega) | skip
    all_goals
      refine hv.call ?_
      rintro _ ⟨mu, U, hU, hu, rfl⟩
      (cbv; try simp only [wp, (show ∀ n : Nat, _ = n from fun n => wf.2.2.2.2.2.2.2.2.2.2.2.2.2.1 (Int.ofNat n)), (show _ = (0 : Nat) from wf.2.2.2.2.2.2.2.2.2.2.2.2.2.1 0), wpa, (show ∀ n : Nat, _ = n from fun n => wfa.2.2.2.2.2.2.2.2.2.2.2.2.2.1 (Int.ofNat n)), (show _ = (0 : Nat) from wfa.2.2.2.2.2.2.2.2.2.2.2.2.2.1 0), getL, takeL, dropL, TK.isAgg, reduceIte])
      repeat' first | (with_reducible refine And.intro ?_ ?_) | intro c9 | trivial | (refine Later.mk ?_; cbv; try simp only [wp, (show ∀ n : Nat, _ = n from fun n => wf.2.2.2.2.2.2.2.2.2.2.2.2.2.1 (Int.ofNat n)), (show _ = (0 : Nat) from wf.2.2.2.2.2.2.2.2.2.2.2.2.2.1 0), wpa, (show ∀ n : Nat, _ = n from fun n => wfa.2.2.2.2.2.2.2.2.2.2.2.2.2.1 (Int.ofNat n)), (show _ = (0 : Nat) from wfa.2.2.2.2.2.2.2.2.2.2.2.2.2.1 0), getL, takeL, dropL, TK.isAgg, reduceIte])
    refine loopL (Tf := fun {_} _ => fzT [4] (T ())) (fun {_} => tabOk.frz [4]) [] 400 (fun y : Cy => ⟨[.undef, .d (.sl y.a 1 (nuF y.V)), .ref 0 0 z 1, .d (.sl b 1 (nuF X)), .iptr (fun x j => getL [.int .i64 op, .int .i64 n, .str s, .sl k 2 (lsF C N W Q), .sl m 5 G] j .nilp) 0 0 5, .undef, .undef, .undef, .nils, .nils, .nils, .d (.int .i64 i), .d (.sl mu 1 (nsF .i64 U)), .d (.int .i64 y.i), .undef, .undef, .undef, .undef, .undef, .undef, .undef, .undef, .undef, .undef, .undef, .undef, .undef, .undef, .undef, .undef, .undef, .undef, .undef, .undef, .undef, .undef, .undef, .undef, .undef, .undef, .undef, .undef, .undef, .undef, .undef, .undef, .undef, .undef, .undef, .undef, .undef, .undef, .undef, .undef, .undef, .undef, .undef, .undef, .undef, .undef, .undef, .undef, .undef, .undef, .undef, .undef, .undef, .undef, .undef, .undef, .undef, .undef, .undef, .undef, .undef, .undef, .undef, .undef, .undef, .undef, .undef, .undef, .undef, .undef, .undef], [.arr z 1 (stF S) z]⟩) (fun y => mu - y.i) (fun y => y.i ≤ mu ∧ AscB V1 a1 (fun v => ∃ j, j < y.i ∧ U j = v) y.V y.a y.i) ⟨0, a1, V1⟩ ⟨Nat.zero_le _, i2.1, fun v => ⟨.inl, fun h => h.elim id fun ⟨i, hi, _⟩ => absurd hi (Nat.not_lt_zero _)⟩, Nat.le_refl _⟩ (fun {_} => by kernel_rfl) ?_ (fun i => by kernel_rfl) @fun ⟨_, _, _, _, _, _, _, _, _, _, _, _, _, _, _, _, _, _, _, _, _, _, _, _, _, _, _, _, _, _, _, _, _, _, _, _, _, _, wpb, wfb⟩ ⟨j, a2, V2⟩ Bk2 hj hBk2 => ?_
    · ((cbv; try simp only [wf, wfa, exD, exL, exT, exB, exA, leLs, leL_d, leL_undef, leL_nils, leA_nils, deq_refl, deq_int, deq_bool, deq_str, and_true, true_and, AObj.iter.injEq, nc, nc']; try simp (disch := omega) only [w64, w32, wu8]); first | done | rfl | omega | (simp; done) | (simp; omega) | skip)
    obtain ⟨j1, j2⟩ := hj
    dsimp only at j1 j2
    have a1b := i2.2.2
    have a2b := j2.2.2
    (cbv; try simp only [wp, (show ∀ n : Nat, _ = n from fun n => wf.2.2.2.2.2.2.2.2.2.2.2.2.2.1 (Int.ofNat n)), (show _ = (0 : Nat) from wf.2.2.2.2.2.2.2.2.2.2.2.2.2.1 0), wpa, (show ∀ n : Nat, _ = n from fun n => wfa.2.2.2.2.2.2.2.2.2.2.2.2.2.1 (Int.ofNat n)), (show _ = (0 : Nat) from wfa.2.2.2.2.2.2.2.2.2.2.2.2.2.1 0), wpb, (show ∀ n : Nat, _ = n from fun n => wfb.2.2.2.2.2.2.2.2.2.2.2.2.2.1 (Int.ofNat n)), (show _ = (0 : Nat) from wfb.2.2.2.2.2.2.2.2.2.2.2.2.2.1 0), getL, takeL, dropL, TK.isAgg, reduceIte])
    refine ⟨fun e2 => ?_, fun e2 => ?_⟩
    · have e2 : j < mu := (by (try simp only [wf, wfa, wfb, nc, nc', Int.toNat_natCast, bsz, ByteArray.size_append, List.length_cons, List.length_nil] at *); (try simp (disch := omega) only [w64, w32, wu8] at *); first | done | omega)
      have ho := orderedR a2 V2 (U j) (by omega)
      (refine Later.mk ?_; cbv; try simp only [wp, (show ∀ n : Nat, _ = n from fun n => wf.2.2.2.2.2.2.2.2.2.2.2.2.2.1 (Int.ofNat n)), (show _ = (0 : Nat) from wf.2.2.2.2.2.2.2.2.2.2.2.2.2.1 0), wpa, (show ∀ n : Nat, _ = n from fun n => wfa.2.2.2.2.2.2.2.2.2.2.2.2.2.1 (Int.ofNat n)), (show _ = (0 : Nat) from wfa.2.2.2.2.2.2.2.2.2.2.2.2.2.1 0), wpb, (show ∀ n : Nat, _ = n from fun n => wfb.2.2.2.2.2.2.2.2.2.2.2.2.2.1 (Int.ofNat n)), (show _ = (0 : Nat) from wfb.2.2.2.2.2.2.2.2.2.2.2.2.2.1 0), getL, takeL, dropL, TK.isAgg, reduceIte])
      repeat' first | (with_reducible refine And.intro ?_ ?_) | intro c9 | trivial | (refine Later.mk ?_; cbv; try simp only [wp, (show ∀ n : Nat, _ = n from fun n => wf.2.2.2.2.2.2.2.2.2.2.2.2.2.1 (Int.ofNat n)), (show _ = (0 : Nat) from wf.2.2.2.2.2.2.2.2.2.2.2.2.2.1 0), wpa, (show ∀ n : Nat, _ = n from fun n => wfa.2.2.2.2.2.2.2.2.2.2.2.2.2.1 (Int.ofNat n)), (show _ = (0 : Nat) from wfa.2.2.2.2.2.2.2.2.2.2.2.2.2.1 0), wpb, (show ∀ n : Nat, _ = n from fun n => wfb.2.2.2.2.2.2.2.2.2.2.2.2.2.1 (Int.ofNat n)), (show _ = (0 : Nat) from wfb.2.2.2.2.2.2.2.2.2.2.2.2.2.1 0), getL, takeL, dropL, TK.isAgg, reduceIte])
      all_goals first | exact Nat.zero_le _ | exact (by (try simp only [wf, wfa, wfb, nc, nc', Int.toNat_natCast, bsz, ByteArray.size_append, List.length_cons, List.length_nil] at *); (try simp (disch := omega) only [w64, w32, wu8] at *); first | done | omega) | skip
      all_goals
        refine ho.call ?_
        rintro _ ⟨a3, V3, h1, h2, rfl⟩
        (cbv; try simp only [wp, (show ∀ n : Nat, _ = n from fun n => wf.2.2.2.2.2.2.2.2.2.2.2.2.2.1 (Int.ofNat n)), (show _ = (0 : Nat) from wf.2.2.2.2.2.2.2.2.2.2.2.2.2.1 0), wpa, (show ∀ n : Nat, _ = n from fun n => wfa.2.2.2.2.2.2.2.2.2.2.2.2.2.1 (Int.ofNat n)), (show _ = (0 : Nat) from wfa.2.2.2.2.2.2.2.2.2.2.2.2.2.1 0), wpb, (show ∀ n : Nat, _ = n from fun n => wfb.2.2.2.2.2.2.2.2.2.2.2.2.2.1 (Int.ofNat n)), (show _ = (0 : Nat) from wfb.2.2.2.2.2.2.2.2.2.2.2.2.2.1 0), getL, takeL, dropL, TK.isAgg, reduceIte])
        repeat' first | (with_reducible refine And.intro ?_ ?_) | intro c9 | trivial | (refine Later.mk ?_; cbv; try simp only [wp, (show ∀ n : Nat, _ = n from fun n => wf.2.2.2.2.2.2.2.2.2.2.2.2.2.1 (Int.ofNat n)), (show _ = (0 : Nat) from wf.2.2.2.2.2.2.2.2.2.2.2.2.2.1 0), wpa, (show ∀ n : Nat, _ = n from fun n => wfa.2.2.2.2.2.2.2.2.2.2.2.2.2.1 (Int.ofNat n)), (show _ = (0 : Nat) from wfa.2.2.2.2.2.2.2.2.2.2.2.2.2.1 0), wpb, (show ∀ n : Nat, _ = n from fun n => wfb.2.2.2.2.2.2.2.2.2.2.2.2.2.1 (Int.ofNat n)), (show _ = (0 : Nat) from wfb.2.2.2.2.2.2.2.2.2.2.2.2.2.1 0), getL, takeL, dropL, TK.isAgg, reduceIte])
      all_goals first
        | exact Nat.zero_le _
        | exact (by (try simp only [wf, wfa, wfb, nc, nc', Int.toNat_natCast, bsz, ByteArray.size_append, List.length_cons, List.length_nil] at *); (try simp (disch := omega) only [w64, w32, wu8] at *); first | done | omega)
        | (refine hBk2 ⟨j + 1, a3, V3⟩ _ (by dsimp only; omega) ⟨by dsimp only; omega, by dsimp only; rw [h1]; exact ordL_asc _ j2.1, fun v => ?_, by dsimp only; omega⟩ ?_
           · dsimp only
             rw [h1, ordL_mem, j2.2.1]
             constructor
             · rintro (h | h | ⟨j0, h3, h4⟩)
               · exact .inr ⟨j, Nat.lt_succ_self _, h.symm⟩
               · exact .inl h
               · exact .inr ⟨j0, by omega, h4⟩
             · rintro (h | ⟨j0, h3, h4⟩)
               · exact .inr (.inl h)
               · by_cases ej : j0 = j
                 · subst ej; exact .inl h4.symm
                 · exact .inr (.inr ⟨j0, by omega, h4⟩)
           · ((cbv; try simp only [wf, wfa, wfb, exD, exL, exT, exB, exA, leLs, leL_d, leL_undef, leL_nils, leA_nils, deq_refl, deq_int, deq_bool, deq_str, and_true, true_and, AObj.iter.injEq, nc, nc']; try simp (disch := omega) only [w64, w32, wu8]); first | done | rfl | omega | (simp; done) | (simp; omega) | skip))
        | (fail)
    · obtain rfl : j = mu := (by (try simp only [wf, wfa, wfb, nc, nc', Int.toNat_natCast, bsz, ByteArray.size_append, List.length_cons, List.length_nil] at *); (try simp (disch := omega) only [w64, w32, wu8] at *); first | done | omega)
      (refine Later.mk ?_; cbv; try simp only [wp, (show ∀ n : Nat, _ = n from fun n => wf.2.2.2.2.2.2.2.2.2.2.2.2.2.1 (Int.ofNat n)), (show _ = (0 : Nat) from wf.2.2.2.2.2.2.2.2.2.2.2.2.2.1 0), wpa, (show ∀ n : Nat, _ = n from fun n => wfa.2.2.2.2.2.2.2.2.2.2.2.2.2.1 (Int.ofNat n)), (show _ = (0 : Nat) from wfa.2.2.2.2.2.2.2.2.2.2.2.2.2.1 0), wpb, (show ∀ n : Nat, _ = n from fun n => wfb.2.2.2.2.2.2.2.2.2.2.2.2.2.1 (Int.ofNat n)), (show _ = (0 : Nat) from wfb.2.2.2.2.2.2.2.2.2.2.2.2.2.1 0), getL, takeL, dropL, TK.isAgg, reduceIte])
      repeat' first | (with_reducible refine And.intro ?_ ?_) | intro c9 | trivial | (refine Later.mk ?_; cbv; try simp only [wp, (show ∀ n : Nat, _ = n from fun n => wf.2.2.2.2.2.2.2.2.2.2.2.2.2.1 (Int.ofNat n)), (show _ = (0 : Nat) from wf.2.2.2.2.2.2.2.2.2.2.2.2.2.1 0), wpa, (show ∀ n : Nat, _ = n from fun n => wfa.2.2.2.2.2.2.2.2.2.2.2.2.2.1 (Int.ofNat n)), (show _ = (0 : Nat) from wfa.2.2.2.2.2.2.2.2.2.2.2.2.2.1 0), wpb, (show ∀ n : Nat, _ = n from fun n => wfb.2.2.2.2.2.2.2.2.2.2.2.2.2.1 (Int.ofNat n)), (show _ = (0 : Nat) from wfb.2.2.2.2.2.2.2.2.2.2.2.2.2.1 0), getL, takeL, dropL, TK.isAgg, reduceIte])
      all_goals first
        | exact Nat.zero_le _
        | exact (by (try simp only [wf, wfa, wfb, nc, nc', Int.toNat_natCast, bsz, ByteArray.size_append, List.length_cons, List.length_nil] at *); (try simp (disch := omega) only [w64, w32, wu8] at *); first | done | omega)
        | (refine hBk ⟨i + 1, a2, V2⟩ _ (by dsimp only; omega) ⟨by dsimp only; omega, j2.1, fun v => ?_, by dsimp only [sumF]; omega⟩ ?_
           · dsimp only
             have hm : (∃ q, q < j ∧ U q = v) ↔ ∃ q, q < N i ∧ W i q = v := by
               rw [← numsL_mem, ← numsL_mem]; exact (VarsP.iff.1 hU).2 v
             refine (j2.2.1 v).trans ?_
             show (v ∈ numsL V1 a1 ∨ ∃ q, q < j ∧ U q = v) ↔ (v ∈ numsL V a ∨ ∃ q, q < i + 1 ∧ ∃ j, j < N q ∧ W q j = v)
             rw [hm]
             refine (or_congr (i2.2.1 v) Iff.rfl).trans ?_
             show ((v ∈ numsL V a ∨ ∃ q, q < i ∧ ∃ j, j < N q ∧ W q j = v) ∨ ∃ q, q < N i ∧ W i q = v) ↔ _
             constructor
             · rintro ((h | ⟨i0, h1, h2⟩) | h)
               · exact .inl h
               · exact .inr ⟨i0, by omega, h2⟩
               · exact .inr ⟨i, Nat.lt_succ_self _, h⟩
             · rintro (h | ⟨i0, h1, h2⟩)
               · exact .inl (.inl h)
               · by_cases ei : i0 = i
                 · subst ei; exact .inr h2
                 · exact .inl (.inr ⟨i0, by omega, h2⟩)
           · ((cbv; try simp only [wf, wfa, wfb, exD, exL, exT, exB, exA, leLs, leL_d, leL_undef, leL_nils, leA_nils, deq_refl, deq_int, deq_bool, deq_str, and_true, true_and, AObj.iter.injEq, nc, nc']; try simp (disch := omega) only [w64, w32, wu8]); first | done | rfl | omega | (simp; done) | (simp; omega) | skip))
        | (fail)
  · obtain rfl : i = k := (by (try simp only [wf, wfa, nc, nc', Int.toNat_natCast, bsz, ByteArray.size_append, List.length_cons, List.length_nil] at *); (try simp (disch := omega) only [w64, w32, wu8] at *); first | done | omega)
    (refine Later.mk ?_; cbv; try simp only [wp, (show ∀ n : Nat, _ = n from fun n => wf.2.2.2.2.2.2.2.2.2.2.2.2.2.1 (Int.ofNat n)), (show _ = (0 : Nat) from wf.2.2.2.2.2.2.2.2.2.2.2.2.2.1 0), wpa, (show ∀ n : Nat, _ = n from fun n => wfa.2.2.2.2.2.2.2.2.2.2.2.2.2.1 (Int.ofNat n)), (show _ = (0 : Nat) from wfa.2.2.2.2.2.2.2.2.2.2.2.2.2.1 0), getL, takeL, dropL, TK.isAgg, reduceIte])
    repeat' first | (with_reducible refine And.intro ?_ ?_) | intro c9 | trivial | (refine Later.mk ?_; cbv; try simp only [wp, (show ∀ n : Nat, _ = n from fun n => wf.2.2.2.2.2.2.2.2.2.2.2.2.2.1 (Int.ofNat n)), (show _ = (0 : Nat) from wf.2.2.2.2.2.2.2.2.2.2.2.2.2.1 0), wpa, (show ∀ n : Nat, _ = n from fun n => wfa.2.2.2.2.2.2.2.2.2.2.2.2.2.1 (Int.ofNat n)), (show _ = (0 : Nat) from wfa.2.2.2.2.2.2.2.2.2.2.2.2.2.1 0), getL, takeL, dropL, TK.isAgg, reduceIte])
    clear hBk hv b3
    refine (manyR op).call ?_
    rintro _ ⟨c, hc, rfl⟩
    obtain ⟨Y, hY⟩ : ∃ Y : Nat → List ByteArray, Y = fun i => foldF M i (addN op s (textL S z)) := ⟨_, rfl⟩
    have Y0 : Y 0 = addN op s (textL S z) := by rw [hY]; rfl
    have Y1 : ∀ i, Y (i + 1) = M i (Y i) := fun i => by rw [hY]; rfl
    have Ym : foldF M m (addN op s (textL S z)) = Y m := by rw [hY]
    have YL : ∀ i, i ≤ m → (Y i).length ≤ z + 1 + sumF nk i := fun i hi => by
      have h2 := addN_le op s (textL S z)
      rw [textL_len] at h2
      have h3 := foldF_len (g := M) (b := nk) (n := i) (y := addN op s (textL S z)) fun j z hj => hML j z (by omega)
      rw [hY]
      show (foldF M i (addN op s (textL S z))).length ≤ _
      omega
    rw [Ym] at hA
    have hole : ∀ X1 b1, numsL X1 b1 = ordL n (numsL X b) → b1 ≤ b + 1 → op = 29 → AscB X b (fun v => op = 29 ∧ n = v) X1 b1 1 := fun X1 b1 h1 h2 h3 => ⟨by rw [h1]; exact ordL_asc _ pX, fun v => by
      rw [h1, ordL_mem]
      constructor
      · rintro (h | h)
        · exact .inr ⟨h3, h.symm⟩
        · exact .inl h
      · rintro (h | h)
        · exact .inr h
        · exact .inl h.2.symm, h2⟩
    have hno : ¬ op = 29 → AscB X b (fun v => op = 29 ∧ n = v) X b 1 := fun h => ⟨pX, fun v => ⟨.inl, fun h' => h'.elim id fun h' => absurd h'.1 h⟩, Nat.le_succ _⟩
    clear hY Ym hML pX pV
    have sm : sumF N i ≤ q1 := b6
    have sb := i2.2.2
    cases c
    · have hM0 : addN op s (textL S z) = textL S z := addN_no (.inl fun h => by
        have := hc.2 (by unfold ManyP; unfold IsM at h; omega)
        cases this)
      rw [hM0] at Y0
      clear hc hM0
      (cbv; try simp only [wp, (show ∀ n : Nat, _ = n from fun n => wf.2.2.2.2.2.2.2.2.2.2.2.2.2.1 (Int.ofNat n)), (show _ = (0 : Nat) from wf.2.2.2.2.2.2.2.2.2.2.2.2.2.1 0), wpa, (show ∀ n : Nat, _ = n from fun n => wfa.2.2.2.2.2.2.2.2.2.2.2.2.2.1 (Int.ofNat n)), (show _ = (0 : Nat) from wfa.2.2.2.2.2.2.2.2.2.2.2.2.2.1 0), getL, takeL, dropL, TK.isAgg, reduceIte])
      repeat' first | (with_reducible refine And.intro ?_ ?_) | intro c9 | trivial | (refine Later.mk ?_; cbv; try simp only [wp, (show ∀ n : Nat, _ = n from fun n => wf.2.2.2.2.2.2.2.2.2.2.2.2.2.1 (Int.ofNat n)), (show _ = (0 : Nat) from wf.2.2.2.2.2.2.2.2.2.2.2.2.2.1 0), wpa, (show ∀ n : Nat, _ = n from fun n => wfa.2.2.2.2.2.2.2.2.2.2.2.2.2.1 (Int.ofNat n)), (show _ = (0 : Nat) from wfa.2.2.2.2.2.2.2.2.2.2.2.2.2.1 0), getL, takeL, dropL, TK.isAgg, reduceIte])
      · refine (orderedR b X n (by omega)).call ?_
        rintro _ ⟨b1, X1, h1, h2, rfl⟩
        have hX1 := hole X1 b1 h1 h2 c9
        clear hole hno h1
        (cbv; try simp only [wp, (show ∀ n : Nat, _ = n from fun n => wf.2.2.2.2.2.2.2.2.2.2.2.2.2.1 (Int.ofNat n)), (show _ = (0 : Nat) from wf.2.2.2.2.2.2.2.2.2.2.2.2.2.1 0), wpa, (show ∀ n : Nat, _ = n from fun n => wfa.2.2.2.2.2.2.2.2.2.2.2.2.2.1 (Int.ofNat n)), (show _ = (0 : Nat) from wfa.2.2.2.2.2.2.2.2.2.2.2.2.2.1 0), getL, takeL, dropL, TK.isAgg, reduceIte])
        repeat' first | (with_reducible refine And.intro ?_ ?_) | intro c9 | trivial | (refine Later.mk ?_; cbv; try simp only [wp, (show ∀ n : Nat, _ = n from fun n => wf.2.2.2.2.2.2.2.2.2.2.2.2.2.1 (Int.ofNat n)), (show _ = (0 : Nat) from wf.2.2.2.2.2.2.2.2.2.2.2.2.2.1 0), wpa, (show ∀ n : Nat, _ = n from fun n => wfa.2.2.2.2.2.2.2.2.2.2.2.2.2.1 (Int.ofNat n)), (show _ = (0 : Nat) from wfa.2.2.2.2.2.2.2.2.2.2.2.2.2.1 0), getL, takeL, dropL, TK.isAgg, reduceIte])
        refine loopL (Tf := fun {_} _ => fzT [4] (T ())) (fun {_} => tabOk.frz [4]) [] 400 (fun y : Dy => ⟨[.undef, .d (.sl y.a 1 (nuF y.V)), .ref 0 0 y.z 1, .d (.sl y.b 1 (nuF y.X)), .iptr (fun x j => getL [.int .i64 op, .int .i64 n, .str s, .sl i 2 (lsF C N W Q), .sl m 5 G] j .nilp) 0 0 5, .undef, .undef, .undef, .nils, .nils, .nils, .undef, .undef, .undef, .d (.int .i64 y.i), .undef, .undef, .undef, .undef, .undef, .undef, .undef, .undef, .undef, .undef, .undef, .undef, .undef, .undef, .undef, .undef, .undef, .undef, .undef, .undef, .undef, .undef, .undef, .undef, .undef, .undef, .undef, .undef, .undef, .undef, .undef, .undef, .undef, .undef, .undef, .undef, .undef, .undef, .undef, .undef, .undef, .undef, .undef, .undef, .undef, .undef, .undef, .undef, .undef, .undef, .undef, .undef, .undef, .undef, .undef, .undef, .undef, .undef, .undef, .undef, .undef, .undef, .undef, .undef, .undef, .undef, .undef, .undef, .undef, .undef], [.arr y.z 1 (stF y.S) y.z]⟩) (fun y => m - y.i) (fun y => y.i ≤ m ∧ AscB V1 a1 (fun v => ∃ i, i < y.i ∧ M1 i v) y.V y.a (sumF nk y.i) ∧ textL y.S y.z = Y y.i ∧ AscB X1 b1 (fun v => ∃ i, i < y.i ∧ M2 i v) y.X y.b (sumF nk y.i)) ⟨0, a1, V1, z, S, b1, X1⟩ ⟨Nat.zero_le _, .start i2.1, Y0.symm, .start hX1.1⟩ (fun {_} => by kernel_rfl) ?_ (fun i => by kernel_rfl) @fun ⟨_, _, _, _, _, _, _, _, _, _, _, _, _, _, _, _, _, _, _, _, _, _, _, _, _, _, _, _, _, _, _, _, _, _, _, _, _, _, wpb, wfb⟩ ⟨j, a2, V2, z2, S2, b2, X2⟩ Bk2 hj hBk2 => ?_
        · ((cbv; try simp only [wf, wfa, exD, exL, exT, exB, exA, leLs, leL_d, leL_undef, leL_nils, leA_nils, deq_refl, deq_int, deq_bool, deq_str, and_true, true_and, AObj.iter.injEq, nc, nc']; try simp (disch := omega) only [w64, w32, wu8]); first | done | rfl | omega | (simp; done) | (simp; omega) | skip)
        obtain ⟨j1, j2, j3, j4⟩ := hj
        dsimp only at j1 j2 j3 j4
        have j2b := j2.2.2
        have j4b := j4.2.2
        have hy := YL j j1
        rw [← j3, textL_len] at hy
        have y1 := Y1 j
        rw [← j3] at y1
        (cbv; try simp only [wp, (show ∀ n : Nat, _ = n from fun n => wf.2.2.2.2.2.2.2.2.2.2.2.2.2.1 (Int.ofNat n)), (show _ = (0 : Nat) from wf.2.2.2.2.2.2.2.2.2.2.2.2.2.1 0), wpa, (show ∀ n : Nat, _ = n from fun n => wfa.2.2.2.2.2.2.2.2.2.2.2.2.2.1 (Int.ofNat n)), (show _ = (0 : Nat) from wfa.2.2.2.2.2.2.2.2.2.2.2.2.2.1 0), wpb, (show ∀ n : Nat, _ = n from fun n => wfb.2.2.2.2.2.2.2.2.2.2.2.2.2.1 (Int.ofNat n)), (show _ = (0 : Nat) from wfb.2.2.2.2.2.2.2.2.2.2.2.2.2.1 0), getL, takeL, dropL, TK.isAgg, reduceIte])
        refine ⟨fun e2 => ?_, fun e2 => ?_⟩
        · have e2 : j < m := (by (try simp only [wf, wfa, wfb, nc, nc', Int.toNat_natCast, bsz, ByteArray.size_append, List.length_cons, List.length_nil] at *); (try simp (disch := omega) only [w64, w32, wu8] at *); first | done | omega)
          have sN := sumF_one (f := nk) e2
          have hc := ih' j e2 V2 a2 S2 z2 X2 b2 (by omega) (by omega) (by omega) j2.1 j4.1
          clear ih'
          (refine Later.mk ?_; cbv; try simp only [wp, (show ∀ n : Nat, _ = n from fun n => wf.2.2.2.2.2.2.2.2.2.2.2.2.2.1 (Int.ofNat n)), (show _ = (0 : Nat) from wf.2.2.2.2.2.2.2.2.2.2.2.2.2.1 0), wpa, (show ∀ n : Nat, _ = n from fun n => wfa.2.2.2.2.2.2.2.2.2.2.2.2.2.1 (Int.ofNat n)), (show _ = (0 : Nat) from wfa.2.2.2.2.2.2.2.2.2.2.2.2.2.1 0), wpb, (show ∀ n : Nat, _ = n from fun n => wfb.2.2.2.2.2.2.2.2.2.2.2.2.2.1 (Int.ofNat n)), (show _ = (0 : Nat) from wfb.2.2.2.2.2.2.2.2.2.2.2.2.2.1 0), getL, takeL, dropL, TK.isAgg, reduceIte])
          repeat' first | (with_reducible refine And.intro ?_ ?_) | intro c9 | trivial | (refine Later.mk ?_; cbv; try simp only [wp, (show ∀ n : Nat, _ = n from fun n => wf.2.2.2.2.2.2.2.2.2.2.2.2.2.1 (Int.ofNat n)), (show _ = (0 : Nat) from wf.2.2.2.2.2.2.2.2.2.2.2.2.2.1 0), wpa, (show ∀ n : Nat, _ = n from fun n => wfa.2.2.2.2.2.2.2.2.2.2.2.2.2.1 (Int.ofNat n)), (show _ = (0 : Nat) from wfa.2.2.2.2.2.2.2.2.2.2.2.2.2.1 0), wpb, (show ∀ n : Nat, _ = n from fun n => wfb.2.2.2.2.2.2.2.2.2.2.2.2.2.1 (Int.ofNat n)), (show _ = (0 : Nat) from wfb.2.2.2.2.2.2.2.2.2.2.2.2.2.1 0), getL, takeL, dropL, TK.isAgg, reduceIte])
          all_goals first | exact Nat.zero_le _ | exact (by (try simp only [wf, wfa, wfb, nc, nc', Int.toNat_natCast, bsz, ByteArray.size_append, List.length_cons, List.length_nil] at *); (try simp (disch := omega) only [w64, w32, wu8] at *); first | done | omega) | skip
          all_goals
            refine CallW.within hc [0] rfl ⟨rfl, trivial⟩ rfl ?_
            rintro _ _ ⟨V3, a3, S3, z3, X3, b3, ⟨h1, h2, h3⟩, rfl, rfl⟩
            refine ⟨[.arr z3 1 (stF S3) z3], [], rfl, Nat.le_refl _, ⟨Nat.le_refl _, trivial⟩, rfl, ?_⟩
            (cbv; try simp only [wp, (show ∀ n : Nat, _ = n from fun n => wf.2.2.2.2.2.2.2.2.2.2.2.2.2.1 (Int.ofNat n)), (show _ = (0 : Nat) from wf.2.2.2.2.2.2.2.2.2.2.2.2.2.1 0), wpa, (show ∀ n : Nat, _ = n from fun n => wfa.2.2.2.2.2.2.2.2.2.2.2.2.2.1 (Int.ofNat n)), (show _ = (0 : Nat) from wfa.2.2.2.2.2.2.2.2.2.2.2.2.2.1 0), wpb, (show ∀ n : Nat, _ = n from fun n => wfb.2.2.2.2.2.2.2.2.2.2.2.2.2.1 (Int.ofNat n)), (show _ = (0 : Nat) from wfb.2.2.2.2.2.2.2.2.2.2.2.2.2.1 0), getL, takeL, dropL, TK.isAgg, reduceIte])
            repeat' first | (with_reducible refine And.intro ?_ ?_) | intro c9 | trivial | (refine Later.mk ?_; cbv; try simp only [wp, (show ∀ n : Nat, _ = n from fun n => wf.2.2.2.2.2.2.2.2.2.2.2.2.2.1 (Int.ofNat n)), (show _ = (0 : Nat) from wf.2.2.2.2.2.2.2.2.2.2.2.2.2.1 0), wpa, (show ∀ n : Nat, _ = n from fun n => wfa.2.2.2.2.2.2.2.2.2.2.2.2.2.1 (Int.ofNat n)), (show _ = (0 : Nat) from wfa.2.2.2.2.2.2.2.2.2.2.2.2.2.1 0), wpb, (show ∀ n : Nat, _ = n from fun n => wfb.2.2.2.2.2.2.2.2.2.2.2.2.2.1 (Int.ofNat n)), (show _ = (0 : Nat) from wfb.2.2.2.2.2.2.2.2.2.2.2.2.2.1 0), getL, takeL, dropL, TK.isAgg, reduceIte])
          all_goals first
            | exact Nat.zero_le _
            | exact (by (try simp only [wf, wfa, wfb, nc, nc', Int.toNat_natCast, bsz, ByteArray.size_append, List.length_cons, List.length_nil] at *); (try simp (disch := omega) only [w64, w32, wu8] at *); first | done | omega)
            | (refine hBk2 ⟨j + 1, a3, V3, z3, S3, b3, X3⟩ _ (by dsimp only; omega) ⟨by dsimp only; omega, j2.next h1 j, h2.trans y1.symm, j4.next h3 j⟩ ?_
               (cbv; try simp only [wf, wfa, wfb, exD, exL, exT, exB, exA, leLs, leL_d, leL_undef, leL_nils, leA_nils, deq_refl, deq_int, deq_bool, deq_str, and_true, true_and, AObj.iter.injEq, nc, nc']; try simp (disch := omega) only [w64, w32, wu8])
               ((try simp only [wf, wfa, wfb, nc, nc', Int.toNat_natCast, bsz, ByteArray.size_append, List.length_cons, List.length_nil] at *); (try simp (disch := omega) only [w64, w32, wu8] at *))
               exact ⟨by omega, Nat.le_refl _, Nat.le_refl _, fun _ _ _ _ => trivial⟩)
            | (trace_state; fail)
        · obtain rfl : j = m := (by (try simp only [wf, wfa, wfb, nc, nc', Int.toNat_natCast, bsz, ByteArray.size_append, List.length_cons, List.length_nil] at *); (try simp (disch := omega) only [w64, w32, wu8] at *); first | done | omega)
          (refine Later.mk ?_; cbv; try simp only [wp, (show ∀ n : Nat, _ = n from fun n => wf.2.2.2.2.2.2.2.2.2.2.2.2.2.1 (Int.ofNat n)), (show _ = (0 : Nat) from wf.2.2.2.2.2.2.2.2.2.2.2.2.2.1 0), wpa, (show ∀ n : Nat, _ = n from fun n => wfa.2.2.2.2.2.2.2.2.2.2.2.2.2.1 (Int.ofNat n)), (show _ = (0 : Nat) from wfa.2.2.2.2.2.2.2.2.2.2.2.2.2.1 0), wpb, (show ∀ n : Nat, _ = n from fun n => wfb.2.2.2.2.2.2.2.2.2.2.2.2.2.1 (Int.ofNat n)), (show _ = (0 : Nat) from wfb.2.2.2.2.2.2.2.2.2.2.2.2.2.1 0), getL, takeL, dropL, TK.isAgg, reduceIte])
          repeat' first | (with_reducible refine And.intro ?_ ?_) | intro c9 | trivial | (refine Later.mk ?_; cbv; try simp only [wp, (show ∀ n : Nat, _ = n from fun n => wf.2.2.2.2.2.2.2.2.2.2.2.2.2.1 (Int.ofNat n)), (show _ = (0 : Nat) from wf.2.2.2.2.2.2.2.2.2.2.2.2.2.1 0), wpa, (show ∀ n : Nat, _ = n from fun n => wfa.2.2.2.2.2.2.2.2.2.2.2.2.2.1 (Int.ofNat n)), (show _ = (0 : Nat) from wfa.2.2.2.2.2.2.2.2.2.2.2.2.2.1 0), wpb, (show ∀ n : Nat, _ = n from fun n => wfb.2.2.2.2.2.2.2.2.2.2.2.2.2.1 (Int.ofNat n)), (show _ = (0 : Nat) from wfb.2.2.2.2.2.2.2.2.2.2.2.2.2.1 0), getL, takeL, dropL, TK.isAgg, reduceIte])
          all_goals exact hA V2 a2 S2 z2 X2 b2 _ _ _ (i2.both j2 (by omega)) j3 (hX1.both j4 (by omega)) (fun i hi => rfl) (Nat.le_refl _)
      · have hX1 := hno c9
        clear hole hno
        refine loopL (Tf := fun {_} _ => fzT [4] (T ())) (fun {_} => tabOk.frz [4]) [] 400 (fun y : Dy => ⟨[.undef, .d (.sl y.a 1 (nuF y.V)), .ref 0 0 y.z 1, .d (.sl y.b 1 (nuF y.X)), .iptr (fun x j => getL [.int .i64 op, .int .i64 n, .str s, .sl i 2 (lsF C N W Q), .sl m 5 G] j .nilp) 0 0 5, .undef, .undef, .undef, .nils, .nils, .nils, .undef, .undef, .undef, .d (.int .i64 y.i), .undef, .undef, .undef, .undef, .undef, .undef, .undef, .undef, .undef, .undef, .undef, .undef, .undef, .undef, .undef, .undef, .undef, .undef, .undef, .undef, .undef, .undef, .undef, .undef, .undef, .undef, .undef, .undef, .undef, .undef, .undef, .undef, .undef, .undef, .undef, .undef, .undef, .undef, .undef, .undef, .undef, .undef, .undef, .undef, .undef, .undef, .undef, .undef, .undef, .undef, .undef, .undef, .undef, .undef, .undef, .undef, .undef, .undef, .undef, .undef, .undef, .undef, .undef, .undef, .undef, .undef, .undef, .undef, .undef, .undef], [.arr y.z 1 (stF y.S) y.z]⟩) (fun y => m - y.i) (fun y => y.i ≤ m ∧ AscB V1 a1 (fun v => ∃ i, i < y.i ∧ M1 i v) y.V y.a (sumF nk y.i) ∧ textL y.S y.z = Y y.i ∧ AscB X b (fun v => ∃ i, i < y.i ∧ M2 i v) y.X y.b (sumF nk y.i)) ⟨0, a1, V1, z, S, b, X⟩ ⟨Nat.zero_le _, .start i2.1, Y0.symm, .start hX1.1⟩ (fun {_} => by kernel_rfl) ?_ (fun i => by kernel_rfl) @fun ⟨_, _, _, _, _, _, _, _, _, _, _, _, _, _, _, _, _, _, _, _, _, _, _, _, _, _, _, _, _, _, _, _, _, _, _, _, _, _, wpb, wfb⟩ ⟨j, a2, V2, z2, S2, b2, X2⟩ Bk2 hj hBk2 => ?_
        · ((cbv; try simp only [wf, wfa, exD, exL, exT, exB, exA, leLs, leL_d, leL_undef, leL_nils, leA_nils, deq_refl, deq_int, deq_bool, deq_str, and_true, true_and, AObj.iter.injEq, nc, nc']; try simp (disch := omega) only [w64, w32, wu8]); first | done | rfl | omega | (simp; done) | (simp; omega) | skip)
        obtain ⟨j1, j2, j3, j4⟩ := hj
        dsimp only at j1 j2 j3 j4
        have j2b := j2.2.2
        have j4b := j4.2.2
        have hy := YL j j1
        rw [← j3, textL_len] at hy
        have y1 := Y1 j
        rw [← j3] at y1
        (cbv; try simp only [wp, (show ∀ n : Nat, _ = n from fun n => wf.2.2.2.2.2.2.2.2.2.2.2.2.2.1 (Int.ofNat n)), (show _ = (0 : Nat) from wf.2.2.2.2.2.2.2.2.2.2.2.2.2.1 0), wpa, (show ∀ n : Nat, _ = n from fun n => wfa.2.2.2.2.2.2.2.2.2.2.2.2.2.1 (Int.ofNat n)), (show _ = (0 : Nat) from wfa.2.2.2.2.2.2.2.2.2.2.2.2.2.1 0), wpb, (show ∀ n : Nat, _ = n from fun n => wfb.2.2.2.2.2.2.2.2.2.2.2.2.2.1 (Int.ofNat n)), (show _ = (0 : Nat) from wfb.2.2.2.2.2.2.2.2.2.2.2.2.2.1 0), getL, takeL, dropL, TK.isAgg, reduceIte])
        refine ⟨fun e2 => ?_, fun e2 => ?_⟩
        · have e2 : j < m := (by (try simp only [wf, wfa, wfb, nc, nc', Int.toNat_natCast, bsz, ByteArray.size_append, List.length_cons, List.length_nil] at *); (try simp (disch := omega) only [w64, w32, wu8] at *); first | done | omega)
          have sN := sumF_one (f := nk) e2
          have hc := ih' j e2 V2 a2 S2 z2 X2 b2 (by omega) (by omega) (by omega) j2.1 j4.1
          clear ih'
          (refine Later.mk ?_; cbv; try simp only [wp, (show ∀ n : Nat, _ = n from fun n => wf.2.2.2.2.2.2.2.2.2.2.2.2.2.1 (Int.ofNat n)), (show _ = (0 : Nat) from wf.2.2.2.2.2.2.2.2.2.2.2.2.2.1 0), wpa, (show ∀ n : Nat, _ = n from fun n => wfa.2.2.2.2.2.2.2.2.2.2.2.2.2.1 (Int.ofNat n)), (show _ = (0 : Nat) from wfa.2.2.2.2.2.2.2.2.2.2.2.2.2.1 0), wpb, (show ∀ n : Nat, _ = n from fun n => wfb.2.2.2.2.2.2.2.2.2.2.2.2.2.1 (Int.ofNat n)), (show _ = (0 : Nat) from wfb.2.2.2.2.2.2.2.2.2.2.2.2.2.1 0), getL, takeL, dropL, TK.isAgg, reduceIte])
          repeat' first | (with_reducible refine And.intro ?_ ?_) | intro c9 | trivial | (refine Later.mk ?_; cbv; try simp only [wp, (show ∀ n : Nat, _ = n from fun n => wf.2.2.2.2.2.2.2.2.2.2.2.2.2.1 (Int.ofNat n)), (show _ = (0 : Nat) from wf.2.2.2.2.2.2.2.2.2.2.2.2.2.1 0), wpa, (show ∀ n : Nat, _ = n from fun n => wfa.2.2.2.2.2.2.2.2.2.2.2.2.2.1 (Int.ofNat n)), (show _ = (0 : Nat) from wfa.2.2.2.2.2.2.2.2.2.2.2.2.2.1 0), wpb, (show ∀ n : Nat, _ = n from fun n => wfb.2.2.2.2.2.2.2.2.2.2.2.2.2.1 (Int.ofNat n)), (show _ = (0 : Nat) from wfb.2.2.2.2.2.2.2.2.2.2.2.2.2.1 0), getL, takeL, dropL, TK.isAgg, reduceIte])
          all_goals first | exact Nat.zero_le _ | exact (by (try simp only [wf, wfa, wfb, nc, nc', Int.toNat_natCast, bsz, ByteArray.size_append, List.length_cons, List.length_nil] at *); (try simp (disch := omega) only [w64, w32, wu8] at *); first | done | omega) | skip
          all_goals
            refine CallW.within hc [0] rfl ⟨rfl, trivial⟩ rfl ?_
            rintro _ _ ⟨V3, a3, S3, z3, X3, b3, ⟨h1, h2, h3⟩, rfl, rfl⟩
            refine ⟨[.arr z3 1 (stF S3) z3], [], rfl, Nat.le_refl _, ⟨Nat.le_refl _, trivial⟩, rfl, ?_⟩
            (cbv; try simp only [wp, (show ∀ n : Nat, _ = n from fun n => wf.2.2.2.2.2.2.2.2.2.2.2.2.2.1 (Int.ofNat n)), (show _ = (0 : Nat) from wf.2.2.2.2.2.2.2.2.2.2.2.2.2.1 0), wpa, (show ∀ n : Nat, _ = n from fun n => wfa.2.2.2.2.2.2.2.2.2.2.2.2.2.1 (Int.ofNat n)), (show _ = (0 : Nat) from wfa.2.2.2.2.2.2.2.2.2.2.2.2.2.1 0), wpb, (show ∀ n : Nat, _ = n from fun n => wfb.2.2.2.2.2.2.2.2.2.2.2.2.2.1 (Int.ofNat n)), (show _ = (0 : Nat) from wfb.2.2.2.2.2.2.2.2.2.2.2.2.2.1 0), getL, takeL, dropL, TK.isAgg, reduceIte])
            repeat' first | (with_reducible refine And.intro ?_ ?_) | intro c9 | trivial | (refine Later.mk ?_; cbv; try simp only [wp, (show ∀ n : Nat, _ = n from fun n => wf.2.2.2.2.2.2.2.2.2.2.2.2.2.1 (Int.ofNat n)), (show _ = (0 : Nat) from wf.2.2.2.2.2.2.2.2.2.2.2.2.2.1 0), wpa, (show ∀ n : Nat, _ = n from fun n => wfa.2.2.2.2.2.2.2.2.2.2.2.2.2.1 (Int.ofNat n)), (show _ = (0 : Nat) from wfa.2.2.2.2.2.2.2.2.2.2.2.2.2.1 0), wpb, (show ∀ n : Nat, _ = n from fun n => wfb.2.2.2.2.2.2.2.2.2.2.2.2.2.1 (Int.ofNat n)), (show _ = (0 : Nat) from wfb.2.2.2.2.2.2.2.2.2.2.2.2.2.1 0), getL, takeL, dropL, TK.isAgg, reduceIte])
          all_goals first
            | exact Nat.zero_le _
            | exact (by (try simp only [wf, wfa, wfb, nc, nc', Int.toNat_natCast, bsz, ByteArray.size_append, List.length_cons, List.length_nil] at *); (try simp (disch := omega) only [w64, w32, wu8] at *); first | done | omega)
            | (refine hBk2 ⟨j + 1, a3, V3, z3, S3, b3, X3⟩ _ (by dsimp only; omega) ⟨by dsimp only; omega, j2.next h1 j, h2.trans y1.symm, j4.next h3 j⟩ ?_
               (cbv; try simp only [wf, wfa, wfb, exD, exL, exT, exB, exA, leLs, leL_d, leL_undef, leL_nils, leA_nils, deq_refl, deq_int, deq_bool, deq_str, and_true, true_and, AObj.iter.injEq, nc, nc']; try simp (disch := omega) only [w64, w32, wu8])
               ((try simp only [wf, wfa, wfb, nc, nc', Int.toNat_natCast, bsz, ByteArray.size_append, List.length_cons, List.length_nil] at *); (try simp (disch := omega) only [w64, w32, wu8] at *))
               exact ⟨by omega, Nat.le_refl _, Nat.le_refl _, fun _ _ _ _ => trivial⟩)
            | (trace_state; fail)
        · obtain rfl : j = m := (by (try simp only [wf, wfa, wfb, nc, nc', Int.toNat_natCast, bsz, ByteArray.size_append, List.length_cons, List.length_nil] at *); (try simp (disch := omega) only [w64, w32, wu8] at *); first | done | omega)
          (refine Later.mk ?_; cbv; try simp only [wp, (show ∀ n : Nat, _ = n from fun n => wf.2.2.2.2.2.2.2.2.2.2.2.2.2.1 (Int.ofNat n)), (show _ = (0 : Nat) from wf.2.2.2.2.2.2.2.2.2.2.2.2.2.1 0), wpa, (show ∀ n : Nat, _ = n from fun n => wfa.2.2.2.2.2.2.2.2.2.2.2.2.2.1 (Int.ofNat n)), (show _ = (0 : Nat) from wfa.2.2.2.2.2.2.2.2.2.2.2.2.2.1 0), wpb, (show ∀ n : Nat, _ = n from fun n => wfb.2.2.2.2.2.2.2.2.2.2.2.2.2.1 (Int.ofNat n)), (show _ = (0 : Nat) from wfb.2.2.2.2.2.2.2.2.2.2.2.2.2.1 0), getL, takeL, dropL, TK.isAgg, reduceIte])
          repeat' first | (with_reducible refine And.intro ?_ ?_) | intro c9 | trivial | (refine Later.mk ?_; cbv; try simp only [wp, (show ∀ n : Nat, _ = n from fun n => wf.2.2.2.2.2.2.2.2.2.2.2.2.2.1 (Int.ofNat n)), (show _ = (0 : Nat) from wf.2.2.2.2.2.2.2.2.2.2.2.2.2.1 0), wpa, (show ∀ n : Nat, _ = n from fun n => wfa.2.2.2.2.2.2.2.2.2.2.2.2.2.1 (Int.ofNat n)), (show _ = (0 : Nat) from wfa.2.2.2.2.2.2.2.2.2.2.2.2.2.1 0), wpb, (show ∀ n : Nat, _ = n from fun n => wfb.2.2.2.2.2.2.2.2.2.2.2.2.2.1 (Int.ofNat n)), (show _ = (0 : Nat) from wfb.2.2.2.2.2.2.2.2.2.2.2.2.2.1 0), getL, takeL, dropL, TK.isAgg, reduceIte])
          all_goals exact hA V2 a2 S2 z2 X2 b2 _ _ _ (i2.both j2 (by omega)) j3 (hX1.both j4 (by omega)) (fun i hi => rfl) (Nat.le_refl _)
    · have hop : IsM op := (by have := hc.1 rfl; unfold ManyP at this; unfold IsM; omega)
      have h29 : ¬ op = 29 := (by have := hc.1 rfl; unfold ManyP at this; omega)
      have hX1 := hno h29
      clear hole hno hc
      (cbv; try simp only [wp, (show ∀ n : Nat, _ = n from fun n => wf.2.2.2.2.2.2.2.2.2.2.2.2.2.1 (Int.ofNat n)), (show _ = (0 : Nat) from wf.2.2.2.2.2.2.2.2.2.2.2.2.2.1 0), wpa, (show ∀ n : Nat, _ = n from fun n => wfa.2.2.2.2.2.2.2.2.2.2.2.2.2.1 (Int.ofNat n)), (show _ = (0 : Nat) from wfa.2.2.2.2.2.2.2.2.2.2.2.2.2.1 0), getL, takeL, dropL, TK.isAgg, reduceIte])
      repeat' first | (with_reducible refine And.intro ?_ ?_) | intro c9 | trivial | (refine Later.mk ?_; cbv; try simp only [wp, (show ∀ n : Nat, _ = n from fun n => wf.2.2.2.2.2.2.2.2.2.2.2.2.2.1 (Int.ofNat n)), (show _ = (0 : Nat) from wf.2.2.2.2.2.2.2.2.2.2.2.2.2.1 0), wpa, (show ∀ n : Nat, _ = n from fun n => wfa.2.2.2.2.2.2.2.2.2.2.2.2.2.1 (Int.ofNat n)), (show _ = (0 : Nat) from wfa.2.2.2.2.2.2.2.2.2.2.2.2.2.1 0), getL, takeL, dropL, TK.isAgg, reduceIte])
      (refine CallW.frz @fun ⟨_, _, _, _, _, _, _, _, _, _, _, _, _, _, _, _, _, _, _, _, _, _, _, _, _, _, _, _, _, _, _, _, _, _, _, _, _, _, wpz, wfz⟩ => ?_; cbv; try simp only [wpz, wp, (show ∀ n : Nat, _ = n from fun n => wfz.2.2.2.2.2.2.2.2.2.2.2.2.2.1 (Int.ofNat n)), getL, takeL, dropL, TK.isAgg, reduceIte])
      repeat' first | (with_reducible refine And.intro ?_ ?_) | intro c9 | trivial | (refine Later.mk ?_; cbv; try simp only [wp, (show ∀ n : Nat, _ = n from fun n => wf.2.2.2.2.2.2.2.2.2.2.2.2.2.1 (Int.ofNat n)), (show _ = (0 : Nat) from wf.2.2.2.2.2.2.2.2.2.2.2.2.2.1 0), wpa, (show ∀ n : Nat, _ = n from fun n => wfa.2.2.2.2.2.2.2.2.2.2.2.2.2.1 (Int.ofNat n)), (show _ = (0 : Nat) from wfa.2.2.2.2.2.2.2.2.2.2.2.2.2.1 0), getL, takeL, dropL, TK.isAgg, reduceIte])
      all_goals first | exact (by (try simp only [wf, wfa, nc, nc', Int.toNat_natCast, bsz, ByteArray.size_append, List.length_cons, List.length_nil] at *); (try simp (disch := omega) only [w64, w32, wu8] at *); first | done | omega) | skip
      refine (hasS z S s (by omega)).call ?_
      rintro _ ⟨q, hq, rfl⟩
      (cbv; try simp only [wp, (show ∀ n : Nat, _ = n from fun n => wf.2.2.2.2.2.2.2.2.2.2.2.2.2.1 (Int.ofNat n)), (show _ = (0 : Nat) from wf.2.2.2.2.2.2.2.2.2.2.2.2.2.1 0), wpa, (show ∀ n : Nat, _ = n from fun n => wfa.2.2.2.2.2.2.2.2.2.2.2.2.2.1 (Int.ofNat n)), (show _ = (0 : Nat) from wfa.2.2.2.2.2.2.2.2.2.2.2.2.2.1 0), getL, takeL, dropL, TK.isAgg, reduceIte])
      repeat' first | (with_reducible refine And.intro ?_ ?_) | intro c9 | trivial | (refine Later.mk ?_; cbv; try simp only [wp, (show ∀ n : Nat, _ = n from fun n => wf.2.2.2.2.2.2.2.2.2.2.2.2.2.1 (Int.ofNat n)), (show _ = (0 : Nat) from wf.2.2.2.2.2.2.2.2.2.2.2.2.2.1 0), wpa, (show ∀ n : Nat, _ = n from fun n => wfa.2.2.2.2.2.2.2.2.2.2.2.2.2.1 (Int.ofNat n)), (show _ = (0 : Nat) from wfa.2.2.2.2.2.2.2.2.2.2.2.2.2.1 0), getL, takeL, dropL, TK.isAgg, reduceIte])
      all_goals first | exact Nat.zero_le _ | exact absurd c9 h29 | exact (by (try simp only [wf, wfa, nc, nc', Int.toNat_natCast, bsz, ByteArray.size_append, List.length_cons, List.length_nil] at *); (try simp (disch := omega) only [w64, w32, wu8] at *); first | done | omega) | skip
      · have hni : s ∉ textL S z := fun h => (by have := hq.2 h; clear hA; omega)
        obtain ⟨S1, e1, e3⟩ := row1S S z s
        obtain ⟨z1, hz1⟩ : ∃ z1, z1 = z + 1 := ⟨_, rfl⟩
        rw [addN_yes hop hni, ← e1, ← hz1] at Y0
        refine loopL (Tf := fun {_} _ => fzT [4] (T ())) (fun {_} => tabOk.frz [4]) [] 400 (fun y : Dy => ⟨[.undef, .d (.sl y.a 1 (nuF y.V)), .ref 0 0 y.z 1, .d (.sl y.b 1 (nuF y.X)), .iptr (fun x j => getL [.int .i64 op, .int .i64 n, .str s, .sl i 2 (lsF C N W Q), .sl m 5 G] j .nilp) 0 0 5, .undef, .undef, .undef, .nils, .nils, .nils, .undef, .undef, .undef, .d (.int .i64 y.i), .undef, .undef, .undef, .undef, .undef, .undef, .undef, .undef, .undef, .undef, .undef, .undef, .undef, .undef, .undef, .undef, .undef, .undef, .undef, .undef, .undef, .undef, .undef, .undef, .undef, .undef, .undef, .undef, .undef, .undef, .undef, .undef, .undef, .undef, .undef, .undef, .undef, .undef, .undef, .undef, .undef, .undef, .undef, .undef, .undef, .undef, .undef, .undef, .undef, .undef, .undef, .undef, .undef, .undef, .undef, .undef, .undef, .undef, .undef, .undef, .undef, .undef, .undef, .undef, .undef, .undef, .undef, .undef, .undef, .undef], [.arr y.z 1 (stF y.S) y.z]⟩) (fun y => m - y.i) (fun y => y.i ≤ m ∧ AscB V1 a1 (fun v => ∃ i, i < y.i ∧ M1 i v) y.V y.a (sumF nk y.i) ∧ textL y.S y.z = Y y.i ∧ AscB X b (fun v => ∃ i, i < y.i ∧ M2 i v) y.X y.b (sumF nk y.i)) ⟨0, a1, V1, z1, S1, b, X⟩ ⟨Nat.zero_le _, .start i2.1, Y0.symm, .start hX1.1⟩ (fun {_} => by kernel_rfl) ?_ (fun i => by kernel_rfl) @fun ⟨_, _, _, _, _, _, _, _, _, _, _, _, _, _, _, _, _, _, _, _, _, _, _, _, _, _, _, _, _, _, _, _, _, _, _, _, _, _, wpb, wfb⟩ ⟨j, a2, V2, z2, S2, b2, X2⟩ Bk2 hj hBk2 => ?_
        · (cbv; try simp only [wf, wfa, exD, exL, exT, exB, exA, leLs, leL_d, leL_undef, leL_nils, leA_nils, deq_refl, deq_int, deq_bool, deq_str, and_true, true_and, AObj.iter.injEq, nc, nc']; try simp (disch := omega) only [w64, w32, wu8])
          ((try simp only [wf, wfa, nc, nc', Int.toNat_natCast, bsz, ByteArray.size_append, List.length_cons, List.length_nil] at *); (try simp (disch := omega) only [w64, w32, wu8] at *))
          exact ⟨⟨congrArg (fun q => A.ref 0 0 q 1) hz1, rfl⟩, hz1.symm, by omega, Nat.le_refl _, fun x j hx hj => .of_eq (e3 x j (by omega) hj)⟩
        obtain ⟨j1, j2, j3, j4⟩ := hj
        dsimp only at j1 j2 j3 j4
        have j2b := j2.2.2
        have j4b := j4.2.2
        have hy := YL j j1
        rw [← j3, textL_len] at hy
        have y1 := Y1 j
        rw [← j3] at y1
        (cbv; try simp only [wp, (show ∀ n : Nat, _ = n from fun n => wf.2.2.2.2.2.2.2.2.2.2.2.2.2.1 (Int.ofNat n)), (show _ = (0 : Nat) from wf.2.2.2.2.2.2.2.2.2.2.2.2.2.1 0), wpa, (show ∀ n : Nat, _ = n from fun n => wfa.2.2.2.2.2.2.2.2.2.2.2.2.2.1 (Int.ofNat n)), (show _ = (0 : Nat) from wfa.2.2.2.2.2.2.2.2.2.2.2.2.2.1 0), wpb, (show ∀ n : Nat, _ = n from fun n => wfb.2.2.2.2.2.2.2.2.2.2.2.2.2.1 (Int.ofNat n)), (show _ = (0 : Nat) from wfb.2.2.2.2.2.2.2.2.2.2.2.2.2.1 0), getL, takeL, dropL, TK.isAgg, reduceIte])
        refine ⟨fun e2 => ?_, fun e2 => ?_⟩
        · have e2 : j < m := (by (try simp only [wf, wfa, wfb, nc, nc', Int.toNat_natCast, bsz, ByteArray.size_append, List.length_cons, List.length_nil] at *); (try simp (disch := omega) only [w64, w32, wu8] at *); first | done | omega)
          have sN := sumF_one (f := nk) e2
          have hc := ih' j e2 V2 a2 S2 z2 X2 b2 (by omega) (by omega) (by omega) j2.1 j4.1
          clear ih'
          (refine Later.mk ?_; cbv; try simp only [wp, (show ∀ n : Nat, _ = n from fun n => wf.2.2.2.2.2.2.2.2.2.2.2.2.2.1 (Int.ofNat n)), (show _ = (0 : Nat) from wf.2.2.2.2.2.2.2.2.2.2.2.2.2.1 0), wpa, (show ∀ n : Nat, _ = n from fun n => wfa.2.2.2.2.2.2.2.2.2.2.2.2.2.1 (Int.ofNat n)), (show _ = (0 : Nat) from wfa.2.2.2.2.2.2.2.2.2.2.2.2.2.1 0), wpb, (show ∀ n : Nat, _ = n from fun n => wfb.2.2.2.2.2.2.2.2.2.2.2.2.2.1 (Int.ofNat n)), (show _ = (0 : Nat) from wfb.2.2.2.2.2.2.2.2.2.2.2.2.2.1 0), getL, takeL, dropL, TK.isAgg, reduceIte])
          repeat' first | (with_reducible refine And.intro ?_ ?_) | intro c9 | trivial | (refine Later.mk ?_; cbv; try simp only [wp, (show ∀ n : Nat, _ = n from fun n => wf.2.2.2.2.2.2.2.2.2.2.2.2.2.1 (Int.ofNat n)), (show _ = (0 : Nat) from wf.2.2.2.2.2.2.2.2.2.2.2.2.2.1 0), wpa, (show ∀ n : Nat, _ = n from fun n => wfa.2.2.2.2.2.2.2.2.2.2.2.2.2.1 (Int.ofNat n)), (show _ = (0 : Nat) from wfa.2.2.2.2.2.2.2.2.2.2.2.2.2.1 0), wpb, (show ∀ n : Nat, _ = n from fun n => wfb.2.2.2.2.2.2.2.2.2.2.2.2.2.1 (Int.ofNat n)), (show _ = (0 : Nat) from wfb.2.2.2.2.2.2.2.2.2.2.2.2.2.1 0), getL, takeL, dropL, TK.isAgg, reduceIte])
          all_goals first | exact Nat.zero_le _ | exact (by (try simp only [wf, wfa, wfb, nc, nc', Int.toNat_natCast, bsz, ByteArray.size_append, List.length_cons, List.length_nil] at *); (try simp (disch := omega) only [w64, w32, wu8] at *); first | done | omega) | skip
          all_goals
            refine CallW.within hc [0] rfl ⟨rfl, trivial⟩ rfl ?_
            rintro _ _ ⟨V3, a3, S3, z3, X3, b3, ⟨h1, h2, h3⟩, rfl, rfl⟩
            refine ⟨[.arr z3 1 (stF S3) z3], [], rfl, Nat.le_refl _, ⟨Nat.le_refl _, trivial⟩, rfl, ?_⟩
            (cbv; try simp only [wp, (show ∀ n : Nat, _ = n from fun n => wf.2.2.2.2.2.2.2.2.2.2.2.2.2.1 (Int.ofNat n)), (show _ = (0 : Nat) from wf.2.2.2.2.2.2.2.2.2.2.2.2.2.1 0), wpa, (show ∀ n : Nat, _ = n from fun n => wfa.2.2.2.2.2.2.2.2.2.2.2.2.2.1 (Int.ofNat n)), (show _ = (0 : Nat) from wfa.2.2.2.2.2.2.2.2.2.2.2.2.2.1 0), wpb, (show ∀ n : Nat, _ = n from fun n => wfb.2.2.2.2.2.2.2.2.2.2.2.2.2.1 (Int.ofNat n)), (show _ = (0 : Nat) from wfb.2.2.2.2.2.2.2.2.2.2.2.2.2.1 0), getL, takeL, dropL, TK.isAgg, reduceIte])
            repeat' first | (with_reducible refine And.intro ?_ ?_) | intro c9 | trivial | (refine Later.mk ?_; cbv; try simp only [wp, (show ∀ n : Nat, _ = n from fun n => wf.2.2.2.2.2.2.2.2.2.2.2.2.2.1 (Int.ofNat n)), (show _ = (0 : Nat) from wf.2.2.2.2.2.2.2.2.2.2.2.2.2.1 0), wpa, (show ∀ n : Nat, _ = n from fun n => wfa.2.2.2.2.2.2.2.2.2.2.2.2.2.1 (Int.ofNat n)), (show _ = (0 : Nat) from wfa.2.2.2.2.2.2.2.2.2.2.2.2.2.1 0), wpb, (show ∀ n : Nat, _ = n from fun n => wfb.2.2.2.2.2.2.2.2.2.2.2.2.2.1 (Int.ofNat n)), (show _ = (0 : Nat) from wfb.2.2.2.2.2.2.2.2.2.2.2.2.2.1 0), getL, takeL, dropL, TK.isAgg, reduceIte])
          all_goals first
            | exact Nat.zero_le _
            | exact (by (try simp only [wf, wfa, wfb, nc, nc', Int.toNat_natCast, bsz, ByteArray.size_append, List.length_cons, List.length_nil] at *); (try simp (disch := omega) only [w64, w32, wu8] at *); first | done | omega)
            | (refine hBk2 ⟨j + 1, a3, V3, z3, S3, b3, X3⟩ _ (by dsimp only; omega) ⟨by dsimp only; omega, j2.next h1 j, h2.trans y1.symm, j4.next h3 j⟩ ?_
               (cbv; try simp only [wf, wfa, wfb, exD, exL, exT, exB, exA, leLs, leL_d, leL_undef, leL_nils, leA_nils, deq_refl, deq_int, deq_bool, deq_str, and_true, true_and, AObj.iter.injEq, nc, nc']; try simp (disch := omega) only [w64, w32, wu8])
               ((try simp only [wf, wfa, wfb, nc, nc', Int.toNat_natCast, bsz, ByteArray.size_append, List.length_cons, List.length_nil] at *); (try simp (disch := omega) only [w64, w32, wu8] at *))
               exact ⟨by omega, Nat.le_refl _, Nat.le_refl _, fun _ _ _ _ => trivial⟩)
            | (trace_state; fail)
        · obtain rfl : j = m := (by (try simp only [wf, wfa, wfb, nc, nc', Int.toNat_natCast, bsz, ByteArray.size_append, List.length_cons, List.length_nil] at *); (try simp (disch := omega) only [w64, w32, wu8] at *); first | done | omega)
          (refine Later.mk ?_; cbv; try simp only [wp, (show ∀ n : Nat, _ = n from fun n => wf.2.2.2.2.2.2.2.2.2.2.2.2.2.1 (Int.ofNat n)), (show _ = (0 : Nat) from wf.2.2.2.2.2.2.2.2.2.2.2.2.2.1 0), wpa, (show ∀ n : Nat, _ = n from fun n => wfa.2.2.2.2.2.2.2.2.2.2.2.2.2.1 (Int.ofNat n)), (show _ = (0 : Nat) from wfa.2.2.2.2.2.2.2.2.2.2.2.2.2.1 0), wpb, (show ∀ n : Nat, _ = n from fun n => wfb.2.2.2.2.2.2.2.2.2.2.2.2.2.1 (Int.ofNat n)), (show _ = (0 : Nat) from wfb.2.2.2.2.2.2.2.2.2.2.2.2.2.1 0), getL, takeL, dropL, TK.isAgg, reduceIte])
          repeat' first | (with_reducible refine And.intro ?_ ?_) | intro c9 | trivial | (refine Later.mk ?_; cbv; try simp only [wp, (show ∀ n : Nat, _ = n from fun n => wf.2.2.2.2.2.2.2.2.2.2.2.2.2.1 (Int.ofNat n)), (show _ = (0 : Nat) from wf.2.2.2.2.2.2.2.2.2.2.2.2.2.1 0), wpa, (show ∀ n : Nat, _ = n from fun n => wfa.2.2.2.2.2.2.2.2.2.2.2.2.2.1 (Int.ofNat n)), (show _ = (0 : Nat) from wfa.2.2.2.2.2.2.2.2.2.2.2.2.2.1 0), wpb, (show ∀ n : Nat, _ = n from fun n => wfb.2.2.2.2.2.2.2.2.2.2.2.2.2.1 (Int.ofNat n)), (show _ = (0 : Nat) from wfb.2.2.2.2.2.2.2.2.2.2.2.2.2.1 0), getL, takeL, dropL, TK.isAgg, reduceIte])
          all_goals exact hA V2 a2 S2 z2 X2 b2 _ _ _ (i2.both j2 (by omega)) j3 (hX1.both j4 (by omega)) (fun i hi => rfl) (Nat.le_refl _)
      · have hi2 : s ∈ textL S z := hq.1 (by clear hA; omega)
        rw [addN_no (.inr hi2)] at Y0
        refine loopL (Tf := fun {_} _ => fzT [4] (T ())) (fun {_} => tabOk.frz [4]) [] 400 (fun y : Dy => ⟨[.undef, .d (.sl y.a 1 (nuF y.V)), .ref 0 0 y.z 1, .d (.sl y.b 1 (nuF y.X)), .iptr (fun x j => getL [.int .i64 op, .int .i64 n, .str s, .sl i 2 (lsF C N W Q), .sl m 5 G] j .nilp) 0 0 5, .undef, .undef, .undef, .nils, .nils, .nils, .undef, .undef, .undef, .d (.int .i64 y.i), .undef, .undef, .undef, .undef, .undef, .undef, .undef, .undef, .undef, .undef, .undef, .undef, .undef, .undef, .undef, .undef, .undef, .undef, .undef, .undef, .undef, .undef, .undef, .undef, .undef, .undef, .undef, .undef, .undef, .undef, .undef, .undef, .undef, .undef, .undef, .undef, .undef, .undef, .undef, .undef, .undef, .undef, .undef, .undef, .undef, .undef, .undef, .undef, .undef, .undef, .undef, .undef, .undef, .undef, .undef, .undef, .undef, .undef, .undef, .undef, .undef, .undef, .undef, .undef, .undef, .undef, .undef, .undef, .undef, .undef], [.arr y.z 1 (stF y.S) y.z]⟩) (fun y => m - y.i) (fun y => y.i ≤ m ∧ AscB V1 a1 (fun v => ∃ i, i < y.i ∧ M1 i v) y.V y.a (sumF nk y.i) ∧ textL y.S y.z = Y y.i ∧ AscB X b (fun v => ∃ i, i < y.i ∧ M2 i v) y.X y.b (sumF nk y.i)) ⟨0, a1, V1, z, S, b, X⟩ ⟨Nat.zero_le _, .start i2.1, Y0.symm, .start hX1.1⟩ (fun {_} => by kernel_rfl) ?_ (fun i => by kernel_rfl) @fun ⟨_, _, _, _, _, _, _, _, _, _, _, _, _, _, _, _, _, _, _, _, _, _, _, _, _, _, _, _, _, _, _, _, _, _, _, _, _, _, wpb, wfb⟩ ⟨j, a2, V2, z2, S2, b2, X2⟩ Bk2 hj hBk2 => ?_
        · ((cbv; try simp only [wf, wfa, exD, exL, exT, exB, exA, leLs, leL_d, leL_undef, leL_nils, leA_nils, deq_refl, deq_int, deq_bool, deq_str, and_true, true_and, AObj.iter.injEq, nc, nc']; try simp (disch := omega) only [w64, w32, wu8]); first | done | rfl | omega | (simp; done) | (simp; omega) | skip)
        obtain ⟨j1, j2, j3, j4⟩ := hj
        dsimp only at j1 j2 j3 j4
        have j2b := j2.2.2
        have j4b := j4.2.2
        have hy := YL j j1
        rw [← j3, textL_len] at hy
        have y1 := Y1 j
        rw [← j3] at y1
        (cbv; try simp only [wp, (show ∀ n : Nat, _ = n from fun n => wf.2.2.2.2.2.2.2.2.2.2.2.2.2.1 (Int.ofNat n)), (show _ = (0 : Nat) from wf.2.2.2.2.2.2.2.2.2.2.2.2.2.1 0), wpa, (show ∀ n : Nat, _ = n from fun n => wfa.2.2.2.2.2.2.2.2.2.2.2.2.2.1 (Int.ofNat n)), (show _ = (0 : Nat) from wfa.2.2.2.2.2.2.2.2.2.2.2.2.2.1 0), wpb, (show ∀ n : Nat, _ = n from fun n => wfb.2.2.2.2.2.2.2.2.2.2.2.2.2.1 (Int.ofNat n)), (show _ = (0 : Nat) from wfb.2.2.2.2.2.2.2.2.2.2.2.2.2.1 0), getL, takeL, dropL, TK.isAgg, reduceIte])
        refine ⟨fun e2 => ?_, fun e2 => ?_⟩
        · have e2 : j < m := (by (try simp only [wf, wfa, wfb, nc, nc', Int.toNat_natCast, bsz, ByteArray.size_append, List.length_cons, List.length_nil] at *); (try simp (disch := omega) only [w64, w32, wu8] at *); first | done | omega)
          have sN := sumF_one (f := nk) e2
          have hc := ih' j e2 V2 a2 S2 z2 X2 b2 (by omega) (by omega) (by omega) j2.1 j4.1
          clear ih'
          (refine Later.mk ?_; cbv; try simp only [wp, (show ∀ n : Nat, _ = n from fun n => wf.2.2.2.2.2.2.2.2.2.2.2.2.2.1 (Int.ofNat n)), (show _ = (0 : Nat) from wf.2.2.2.2.2.2.2.2.2.2.2.2.2.1 0), wpa, (show ∀ n : Nat, _ = n from fun n => wfa.2.2.2.2.2.2.2.2.2.2.2.2.2.1 (Int.ofNat n)), (show _ = (0 : Nat) from wfa.2.2.2.2.2.2.2.2.2.2.2.2.2.1 0), wpb, (show ∀ n : Nat, _ = n from fun n => wfb.2.2.2.2.2.2.2.2.2.2.2.2.2.1 (Int.ofNat n)), (show _ = (0 : Nat) from wfb.2.2.2.2.2.2.2.2.2.2.2.2.2.1 0), getL, takeL, dropL, TK.isAgg, reduceIte])
          repeat' first | (with_reducible refine And.intro ?_ ?_) | intro c9 | trivial | (refine Later.mk ?_; cbv; try simp only [wp, (show ∀ n : Nat, _ = n from fun n => wf.2.2.2.2.2.2.2.2.2.2.2.2.2.1 (Int.ofNat n)), (show _ = (0 : Nat) from wf.2.2.2.2.2.2.2.2.2.2.2.2.2.1 0), wpa, (show ∀ n : Nat, _ = n from fun n => wfa.2.2.2.2.2.2.2.2.2.2.2.2.2.1 (Int.ofNat n)), (show _ = (0 : Nat) from wfa.2.2.2.2.2.2.2.2.2.2.2.2.2.1 0), wpb, (show ∀ n : Nat, _ = n from fun n => wfb.2.2.2.2.2.2.2.2.2.2.2.2.2.1 (Int.ofNat n)), (show _ = (0 : Nat) from wfb.2.2.2.2.2.2.2.2.2.2.2.2.2.1 0), getL, takeL, dropL, TK.isAgg, reduceIte])
          all_goals first | exact Nat.zero_le _ | exact (by (try simp only [wf, wfa, wfb, nc, nc', Int.toNat_natCast, bsz, ByteArray.size_append, List.length_cons, List.length_nil] at *); (try simp (disch := omega) only [w64, w32, wu8] at *); first | done | omega) | skip
          all_goals
            refine CallW.within hc [0] rfl ⟨rfl, trivial⟩ rfl ?_
            rintro _ _ ⟨V3, a3, S3, z3, X3, b3, ⟨h1, h2, h3⟩, rfl, rfl⟩
            refine ⟨[.arr z3 1 (stF S3) z3], [], rfl, Nat.le_refl _, ⟨Nat.le_refl _, trivial⟩, rfl, ?_⟩
            (cbv; try simp only [wp, (show ∀ n : Nat, _ = n from fun n => wf.2.2.2.2.2.2.2.2.2.2.2.2.2.1 (Int.ofNat n)), (show _ = (0 : Nat) from wf.2.2.2.2.2.2.2.2.2.2.2.2.2.1 0), wpa, (show ∀ n : Nat, _ = n from fun n => wfa.2.2.2.2.2.2.2.2.2.2.2.2.2.1 (Int.ofNat n)), (show _ = (0 : Nat) from wfa.2.2.2.2.2.2.2.2.2.2.2.2.2.1 0), wpb, (show ∀ n : Nat, _ = n from fun n => wfb.2.2.2.2.2.2.2.2.2.2.2.2.2.1 (Int.ofNat n)), (show _ = (0 : Nat) from wfb.2.2.2.2.2.2.2.2.2.2.2.2.2.1 0), getL, takeL, dropL, TK.isAgg, reduceIte])
            repeat' first | (with_reducible refine And.intro ?_ ?_) | intro c9 | trivial | (refine Later.mk ?_; cbv; try simp only [wp, (show ∀ n : Nat, _ = n from fun n => wf.2.2.2.2.2.2.2.2.2.2.2.2.2.1 (Int.ofNat n)), (show _ = (0 : Nat) from wf.2.2.2.2.2.2.2.2.2.2.2.2.2.1 0), wpa, (show ∀ n : Nat, _ = n from fun n => wfa.2.2.2.2.2.2.2.2.2.2.2.2.2.1 (Int.ofNat n)), (show _ = (0 : Nat) from wfa.2.2.2.2.2.2.2.2.2.2.2.2.2.1 0), wpb, (show ∀ n : Nat, _ = n from fun n => wfb.2.2.2.2.2.2.2.2.2.2.2.2.2.1 (Int.ofNat n)), (show _ = (0 : Nat) from wfb.2.2.2.2.2.2.2.2.2.2.2.2.2.1 0), getL, takeL, dropL, TK.isAgg, reduceIte])
          all_goals first
            | exact Nat.zero_le _
            | exact (by (try simp only [wf, wfa, wfb, nc, nc', Int.toNat_natCast, bsz, ByteArray.size_append, List.length_cons, List.length_nil] at *); (try simp (disch := omega) only [w64, w32, wu8] at *); first | done | omega)
            | (refine hBk2 ⟨j + 1, a3, V3, z3, S3, b3, X3⟩ _ (by dsimp only; omega) ⟨by dsimp only; omega, j2.next h1 j, h2.trans y1.symm, j4.next h3 j⟩ ?_
               (cbv; try simp only [wf, wfa, wfb, exD, exL, exT, exB, exA, leLs, leL_d, leL_undef, leL_nils, leA_nils, deq_refl, deq_int, deq_bool, deq_str, and_true, true_and, AObj.iter.injEq, nc, nc']; try simp (disch := omega) only [w64, w32, wu8])
               ((try simp only [wf, wfa, wfb, nc, nc', Int.toNat_natCast, bsz, ByteArray.size_append, List.length_cons, List.length_nil] at *); (try simp (disch := omega) only [w64, w32, wu8] at *))
               exact ⟨by omega, Nat.le_refl _, Nat.le_refl _, fun _ _ _ _ => trivial⟩)
            | (trace_state; fail)
        · obtain rfl : j = m := (by (try simp only [wf, wfa, wfb, nc, nc', Int.toNat_natCast, bsz, ByteArray.size_append, List.length_cons, List.length_nil] at *); (try simp (disch := omega) only [w64, w32, wu8] at *); first | done | omega)
          (refine Later.mk ?_; cbv; try simp only [wp, (show ∀ n : Nat, _ = n from fun n => wf.2.2.2.2.2.2.2.2.2.2.2.2.2.1 (Int.ofNat n)), (show _ = (0 : Nat) from wf.2.2.2.2.2.2.2.2.2.2.2.2.2.1 0), wpa, (show ∀ n : Nat, _ = n from fun n => wfa.2.2.2.2.2.2.2.2.2.2.2.2.2.1 (Int.ofNat n)), (show _ = (0 : Nat) from wfa.2.2.2.2.2.2.2.2.2.2.2.2.2.1 0), wpb, (show ∀ n : Nat, _ = n from fun n => wfb.2.2.2.2.2.2.2.2.2.2.2.2.2.1 (Int.ofNat n)), (show _ = (0 : Nat) from wfb.2.2.2.2.2.2.2.2.2.2.2.2.2.1 0), getL, takeL, dropL, TK.isAgg, reduceIte])
          repeat' first | (with_reducible refine And.intro ?_ ?_) | intro c9 | trivial | (refine Later.mk ?_; cbv; try simp only [wp, (show ∀ n : Nat, _ = n from fun n => wf.2.2.2.2.2.2.2.2.2.2.2.2.2.1 (Int.ofNat n)), (show _ = (0 : Nat) from wf.2.2.2.2.2.2.2.2.2.2.2.2.2.1 0), wpa, (show ∀ n : Nat, _ = n from fun n => wfa.2.2.2.2.2.2.2.2.2.2.2.2.2.1 (Int.ofNat n)), (show _ = (0 : Nat) from wfa.2.2.2.2.2.2.2.2.2.2.2.2.2.1 0), wpb, (show ∀ n : Nat, _ = n from fun n => wfb.2.2.2.2.2.2.2.2.2.2.2.2.2.1 (Int.ofNat n)), (show _ = (0 : Nat) from wfb.2.2.2.2.2.2.2.2.2.2.2.2.2.1 0), getL, takeL, dropL, TK.isAgg, reduceIte])
          all_goals exact hA V2 a2 S2 z2 X2 b2 _ _ _ (i2.both j2 (by omega)) j3 (hX1.both j4 (by omega)) (fun i hi => rfl) (Nat.le_refl _)
end Go.VM

namespace Go.VM
open Go.Proofs Go
set_option maxRecDepth 100000
set_option linter.unusedVariables false
set_option linter.unusedSimpArgs false
set_option maxHeartbeats 1000000 in
theorem RLevelsT (t : Tm) (hs : nodesT t ≤ 400000) : VFun (P ()) 28 [tm t] (fun r => ∃ m U, AscM (memV t) m U ∧ m ≤ nodesT t ∧ r = .d (.sl m 1 (nsF .i64 U))) := by
  have hc := collR t hs (fun _ => 0) 0 (fun _ => ByteArray.empty) 0 (fun _ => 0) 0 (by omega) (by omega) (by omega) List.Pairwise.nil List.Pairwise.nil
  obtain ⟨f, e⟩ : ∃ f : Nat → D, tm t = .agg [.d (f 0), .d (f 1), .d (f 2), .d (f 3), .d (f 4)] := ⟨tmD t, rfl⟩
  obtain ⟨nd, hnd⟩ : ∃ M, M = nodesT t := ⟨_, rfl⟩
  obtain ⟨M1, hM1⟩ : ∃ M, M = memV t := ⟨_, rfl⟩
  obtain ⟨M2, hM2⟩ : ∃ M, M = memH t := ⟨_, rfl⟩
  obtain ⟨F, hF⟩ : ∃ M, M = nmsT t := ⟨_, rfl⟩
  rw [← hM1, ← hM2, ← hF, ← hnd, e] at hc
  simp only [← hM1, ← hM2, ← hF, ← hnd]
  rw [e]
  clear hM1 hM2 hF hs e hnd
  refine vfunL (Tf := fun {_} _ => fzT [1] (T ())) (fun {_} => tabOk.frz [1]) [] 400 Tryz.func28 rfl (fun {_} => by kernel_rfl) rfl (Nat.le_of_ble_eq_true rfl) @fun ⟨_, _, _, _, _, _, _, _, _, _, _, _, _, _, _, _, _, _, _, _, _, _, _, _, _, _, _, _, _, _, _, _, _, _, _, _, _, _, wp, wf⟩ R hR => ?_
  cbv
  try simp only [wp, (show ∀ n : Nat, _ = n from fun n => wf.2.2.2.2.2.2.2.2.2.2.2.2.2.1 (Int.ofNat n)), getL, takeL, dropL, TK.isAgg, reduceIte]
  repeat' first | (with_reducible refine And.intro ?_ ?_) | intro c9 | trivial | (refine Later.mk ?_; cbv; try simp only [wp, (show ∀ n : Nat, _ = n from fun n => wf.2.2.2.2.2.2.2.2.2.2.2.2.2.1 (Int.ofNat n)), (show _ = (0 : Nat) from wf.2.2.2.2.2.2.2.2.2.2.2.2.2.1 0), getL, takeL, dropL, TK.isAgg, reduceIte])
  refine CallW.args (args' := [.agg [.d (f 0), .d (f 1), .d (f 2), .d (f 3), .d (f 4)], .d (.sl 0 1 (nuF fun _ => 0)), .nils, .d (.sl 0 1 (nuF fun _ => 0))]) (fun {_ _} => ⟨⟨_, rfl, .refl _, .refl _, .refl _, .refl _, .refl _, trivial⟩, rfl, rfl, rfl, trivial⟩) ?_
  refine CallW.ghostArg (args' := [.agg [.d (f 0), .d (f 1), .d (f 2), .d (f 3), .d (f 4)], .d (.sl 0 1 (nuF fun _ => 0)), .ref 0 0 0 1, .d (.sl 0 1 (nuF fun _ => 0))]) (H' := [.arr 0 1 (stF fun _ => ByteArray.empty) 0]) 2 1 (stF fun _ => ByteArray.empty) rfl rfl rfl ?_
  refine CallW.within hc [0] rfl ⟨rfl, trivial⟩ rfl ?_
  rintro _ _ ⟨V', a', S', z', X', b', ⟨h1, h2, h3⟩, rfl, rfl⟩
  refine ⟨[.arr z' 1 (stF S') z'], [], rfl, Nat.le_refl _, ⟨Nat.le_refl _, trivial⟩, rfl, ?_⟩
  (cbv; try simp only [wp, (show ∀ n : Nat, _ = n from fun n => wf.2.2.2.2.2.2.2.2.2.2.2.2.2.1 (Int.ofNat n)), (show _ = (0 : Nat) from wf.2.2.2.2.2.2.2.2.2.2.2.2.2.1 0), getL, takeL, dropL, TK.isAgg, reduceIte])
  repeat' first | (with_reducible refine And.intro ?_ ?_) | intro c9 | trivial | (refine Later.mk ?_; cbv; try simp only [wp, (show ∀ n : Nat, _ = n from fun n => wf.2.2.2.2.2.2.2.2.2.2.2.2.2.1 (Int.ofNat n)), (show _ = (0 : Nat) from wf.2.2.2.2.2.2.2.2.2.2.2.2.2.1 0), getL, takeL, dropL, TK.isAgg, reduceIte])
  all_goals exact hR _ _ _ (.d _) ⟨a', V', ⟨h1.1, fun v => (h1.2.1 v).trans ⟨fun h => h.elim (fun h => by simp [numsL] at h) id, .inr⟩⟩, by have := h1.2.2; omega, rfl⟩
set_option maxHeartbeats 1000000 in
theorem RNamesT (t : Tm) (hs : nodesT t ≤ 400000) : VFun (P ()) 29 [tm t] (fun r => ∃ m S, textL S m = nmsT t [] ∧ r = .d (.sl m 1 (stF S))) := by
  have hc := collR t hs (fun _ => 0) 0 (fun _ => ByteArray.empty) 0 (fun _ => 0) 0 (by omega) (by omega) (by omega) List.Pairwise.nil List.Pairwise.nil
  obtain ⟨f, e⟩ : ∃ f : Nat → D, tm t = .agg [.d (f 0), .d (f 1), .d (f 2), .d (f 3), .d (f 4)] := ⟨tmD t, rfl⟩
  obtain ⟨nd, hnd⟩ : ∃ M, M = nodesT t := ⟨_, rfl⟩
  obtain ⟨M1, hM1⟩ : ∃ M, M = memV t := ⟨_, rfl⟩
  obtain ⟨M2, hM2⟩ : ∃ M, M = memH t := ⟨_, rfl⟩
  obtain ⟨F, hF⟩ : ∃ M, M = nmsT t := ⟨_, rfl⟩
  rw [← hM1, ← hM2, ← hF, ← hnd, e] at hc
  simp only [← hM1, ← hM2, ← hF, ← hnd]
  rw [e]
  clear hM1 hM2 hF hs e hnd
  refine vfunL (Tf := fun {_} _ => fzT [1] (T ())) (fun {_} => tabOk.frz [1]) [] 400 Tryz.func29 rfl (fun {_} => by kernel_rfl) rfl (Nat.le_of_ble_eq_true rfl) @fun ⟨_, _, _, _, _, _, _, _, _, _, _, _, _, _, _, _, _, _, _, _, _, _, _, _, _, _, _, _, _, _, _, _, _, _, _, _, _, _, wp, wf⟩ R hR => ?_
  cbv
  try simp only [wp, (show ∀ n : Nat, _ = n from fun n => wf.2.2.2.2.2.2.2.2.2.2.2.2.2.1 (Int.ofNat n)), getL, takeL, dropL, TK.isAgg, reduceIte]
  repeat' first | (with_reducible refine And.intro ?_ ?_) | intro c9 | trivial | (refine Later.mk ?_; cbv; try simp only [wp, (show ∀ n : Nat, _ = n from fun n => wf.2.2.2.2.2.2.2.2.2.2.2.2.2.1 (Int.ofNat n)), (show _ = (0 : Nat) from wf.2.2.2.2.2.2.2.2.2.2.2.2.2.1 0), getL, takeL, dropL, TK.isAgg, reduceIte])
  refine CallW.args (args' := [.agg [.d (f 0), .d (f 1), .d (f 2), .d (f 3), .d (f 4)], .d (.sl 0 1 (nuF fun _ => 0)), .nils, .d (.sl 0 1 (nuF fun _ => 0))]) (fun {_ _} => ⟨⟨_, rfl, .refl _, .refl _, .refl _, .refl _, .refl _, trivial⟩, rfl, rfl, rfl, trivial⟩) ?_
  refine CallW.ghostArg (args' := [.agg [.d (f 0), .d (f 1), .d (f 2), .d (f 3), .d (f 4)], .d (.sl 0 1 (nuF fun _ => 0)), .ref 0 0 0 1, .d (.sl 0 1 (nuF fun _ => 0))]) (H' := [.arr 0 1 (stF fun _ => ByteArray.empty) 0]) 2 1 (stF fun _ => ByteArray.empty) rfl rfl rfl ?_
  refine CallW.within hc [0] rfl ⟨rfl, trivial⟩ rfl ?_
  rintro _ _ ⟨V', a', S', z', X', b', ⟨h1, h2, h3⟩, rfl, rfl⟩
  refine ⟨[.arr z' 1 (stF S') z'], [], rfl, Nat.le_refl _, ⟨Nat.le_refl _, trivial⟩, rfl, ?_⟩
  (cbv; try simp only [wp, (show ∀ n : Nat, _ = n from fun n => wf.2.2.2.2.2.2.2.2.2.2.2.2.2.1 (Int.ofNat n)), (show _ = (0 : Nat) from wf.2.2.2.2.2.2.2.2.2.2.2.2.2.1 0), getL, takeL, dropL, TK.isAgg, reduceIte])
  repeat' first | (with_reducible refine And.intro ?_ ?_) | intro c9 | trivial | (refine Later.mk ?_; cbv; try simp only [wp, (show ∀ n : Nat, _ = n from fun n => wf.2.2.2.2.2.2.2.2.2.2.2.2.2.1 (Int.ofNat n)), (show _ = (0 : Nat) from wf.2.2.2.2.2.2.2.2.2.2.2.2.2.1 0), getL, takeL, dropL, TK.isAgg, reduceIte])
  all_goals exact hR _ _ _ (.ref0 0 z' 1 z' z' _ rfl rfl) ⟨z', S', h2, rfl⟩
set_option maxHeartbeats 1000000 in
theorem RHolesT (t : Tm) (hs : nodesT t ≤ 400000) : VFun (P ()) 31 [tm t] (fun r => ∃ m U, AscM (memH t) m U ∧ m ≤ nodesT t ∧ r = .d (.sl m 1 (nsF .i64 U))) := by
  have hc := collR t hs (fun _ => 0) 0 (fun _ => ByteArray.empty) 0 (fun _ => 0) 0 (by omega) (by omega) (by omega) List.Pairwise.nil List.Pairwise.nil
  obtain ⟨f, e⟩ : ∃ f : Nat → D, tm t = .agg [.d (f 0), .d (f 1), .d (f 2), .d (f 3), .d (f 4)] := ⟨tmD t, rfl⟩
  obtain ⟨nd, hnd⟩ : ∃ M, M = nodesT t := ⟨_, rfl⟩
  obtain ⟨M1, hM1⟩ : ∃ M, M = memV t := ⟨_, rfl⟩
  obtain ⟨M2, hM2⟩ : ∃ M, M = memH t := ⟨_, rfl⟩
  obtain ⟨F, hF⟩ : ∃ M, M = nmsT t := ⟨_, rfl⟩
  rw [← hM1, ← hM2, ← hF, ← hnd, e] at hc
  simp only [← hM1, ← hM2, ← hF, ← hnd]
  rw [e]
  clear hM1 hM2 hF hs e hnd
  refine vfunL (Tf := fun {_} _ => fzT [1] (T ())) (fun {_} => tabOk.frz [1]) [] 400 Tryz.func31 rfl (fun {_} => by kernel_rfl) rfl (Nat.le_of_ble_eq_true rfl) @fun ⟨_, _, _, _, _, _, _, _, _, _, _, _, _, _, _, _, _, _, _, _, _, _, _, _, _, _, _, _, _, _, _, _, _, _, _, _, _, _, wp, wf⟩ R hR => ?_
  cbv
  try simp only [wp, (show ∀ n : Nat, _ = n from fun n => wf.2.2.2.2.2.2.2.2.2.2.2.2.2.1 (Int.ofNat n)), getL, takeL, dropL, TK.isAgg, reduceIte]
  repeat' first | (with_reducible refine And.intro ?_ ?_) | intro c9 | trivial | (refine Later.mk ?_; cbv; try simp only [wp, (show ∀ n : Nat, _ = n from fun n => wf.2.2.2.2.2.2.2.2.2.2.2.2.2.1 (Int.ofNat n)), (show _ = (0 : Nat) from wf.2.2.2.2.2.2.2.2.2.2.2.2.2.1 0), getL, takeL, dropL, TK.isAgg, reduceIte])
  refine CallW.args (args' := [.agg [.d (f 0), .d (f 1), .d (f 2), .d (f 3), .d (f 4)], .d (.sl 0 1 (nuF fun _ => 0)), .nils, .d (.sl 0 1 (nuF fun _ => 0))]) (fun {_ _} => ⟨⟨_, rfl, .refl _, .refl _, .refl _, .refl _, .refl _, trivial⟩, rfl, rfl, rfl, trivial⟩) ?_
  refine CallW.ghostArg (args' := [.agg [.d (f 0), .d (f 1), .d (f 2), .d (f 3), .d (f 4)], .d (.sl 0 1 (nuF fun _ => 0)), .ref 0 0 0 1, .d (.sl 0 1 (nuF fun _ => 0))]) (H' := [.arr 0 1 (stF fun _ => ByteArray.empty) 0]) 2 1 (stF fun _ => ByteArray.empty) rfl rfl rfl ?_
  refine CallW.within hc [0] rfl ⟨rfl, trivial⟩ rfl ?_
  rintro _ _ ⟨V', a', S', z', X', b', ⟨h1, h2, h3⟩, rfl, rfl⟩
  refine ⟨[.arr z' 1 (stF S') z'], [], rfl, Nat.le_refl _, ⟨Nat.le_refl _, trivial⟩, rfl, ?_⟩
  (cbv; try simp only [wp, (show ∀ n : Nat, _ = n from fun n => wf.2.2.2.2.2.2.2.2.2.2.2.2.2.1 (Int.ofNat n)), (show _ = (0 : Nat) from wf.2.2.2.2.2.2.2.2.2.2.2.2.2.1 0), getL, takeL, dropL, TK.isAgg, reduceIte])
  repeat' first | (with_reducible refine And.intro ?_ ?_) | intro c9 | trivial | (refine Later.mk ?_; cbv; try simp only [wp, (show ∀ n : Nat, _ = n from fun n => wf.2.2.2.2.2.2.2.2.2.2.2.2.2.1 (Int.ofNat n)), (show _ = (0 : Nat) from wf.2.2.2.2.2.2.2.2.2.2.2.2.2.1 0), getL, takeL, dropL, TK.isAgg, reduceIte])
  all_goals exact hR _ _ _ (.d _) ⟨b', X', ⟨h3.1, fun v => (h3.2.1 v).trans ⟨fun h => h.elim (fun h => by simp [numsL] at h) id, .inr⟩⟩, by have := h3.2.2; omega, rfl⟩
end Go.VM


namespace Go.Proofs
open Go.Shelf
def Tryz.lays189_ren : Go.Shelf.Ren := ⟨fun | 189 => 54 | 125 => 96 | 257 => 95 | 128 => 147 | 129 => 148 | 294 => 138 | 295 => 139 | 296 => 140 | 297 => 141 | 298 => 142 | 299 => 143 | 216 => 144 | 300 => 145 | 301 => 146 | 328 => 174 | 329 => 175 | 330 => 176 | 331 => 177 | 332 => 178 | 215 => 173 | 343 => 201 | n => n, fun | 28 => 53 | 3 => 3 | 46 => 109 | 0 => 0 | 51 => 149 | 53 => 151 | 4 => 4 | 183 => 141 | 182 => 140 | 131 => 146 | 5 => 5 | 9 => 9 | 218 => 171 | 222 => 175 | 228 => 191 | 229 => 28 | n => n, fun | n => n⟩
theorem Tryz.lays189 : Go.Proofs.Lays.n189 Tryz.prog Tryz.lays189_ren := {
  mixed := by kernel_rfl
  f125 := Tryz.func96.trans (congrArg some (by kernel_rfl))
  f128 := Tryz.func147.trans (congrArg some (by kernel_rfl))
  f129 := Tryz.func148.trans (congrArg some (by kernel_rfl))
  f189 := Tryz.func54.trans (congrArg some (by kernel_rfl))
  f215 := Tryz.func173.trans (congrArg some (by kernel_rfl))
  f216 := Tryz.func144.trans (congrArg some (by kernel_rfl))
  f257 := Tryz.func95.trans (congrArg some (by kernel_rfl))
  f294 := Tryz.func138.trans (congrArg some (by kernel_rfl))
  f295 := Tryz.func139.trans (congrArg some (by kernel_rfl))
  f296 := Tryz.func140.trans (congrArg some (by kernel_rfl))
  f297 := Tryz.func141.trans (congrArg some (by kernel_rfl))
  f298 := Tryz.func142.trans (congrArg some (by kernel_rfl))
  f299 := Tryz.func143.trans (congrArg some (by kernel_rfl))
  f300 := Tryz.func145.trans (congrArg some (by kernel_rfl))
  f301 := Tryz.func146.trans (congrArg some (by kernel_rfl))
  f328 := Tryz.func174.trans (congrArg some (by kernel_rfl))
  f329 := Tryz.func175.trans (congrArg some (by kernel_rfl))
  f330 := Tryz.func176.trans (congrArg some (by kernel_rfl))
  f331 := Tryz.func177.trans (congrArg some (by kernel_rfl))
  f332 := Tryz.func178.trans (congrArg some (by kernel_rfl))
  f343 := Tryz.func201.trans (congrArg some (by kernel_rfl))
  t0 := Tryz.underlying0
  a0 := Tryz.isAgg0
  z0 := Tryz.sizeOf0
  v0 := Tryz.zeroValue0
  t3 := Tryz.underlying3
  a3 := Tryz.isAgg3
  z3 := Tryz.sizeOf3
  v3 := Tryz.zeroValue3
  t4 := Tryz.underlying4
  a4 := Tryz.isAgg4
  z4 := Tryz.sizeOf4
  v4 := Tryz.zeroValue4
  t5 := Tryz.underlying5
  a5 := Tryz.isAgg5
  z5 := Tryz.sizeOf5
  v5 := Tryz.zeroValue5
  t9 := Tryz.underlying9
  a9 := Tryz.isAgg9
  z9 := Tryz.sizeOf9
  v9 := Tryz.zeroValue9
  t28 := Tryz.underlying53
  a28 := Tryz.isAgg53
  z28 := Tryz.sizeOf53
  v28 := Tryz.zeroValue53
  t46 := Tryz.underlying109
  a46 := Tryz.isAgg109
  z46 := Tryz.sizeOf109
  v46 := Tryz.zeroValue109
  t51 := Tryz.underlying149
  a51 := Tryz.isAgg149
  z51 := Tryz.sizeOf149
  v51 := Tryz.zeroValue149
  t53 := Tryz.underlying151
  a53 := Tryz.isAgg151
  z53 := Tryz.sizeOf151
  v53 := Tryz.zeroValue151
  t131 := Tryz.underlying146
  a131 := Tryz.isAgg146
  z131 := Tryz.sizeOf146
  v131 := Tryz.zeroValue146
  t182 := Tryz.underlying140
  a182 := Tryz.isAgg140
  z182 := Tryz.sizeOf140
  v182 := Tryz.zeroValue140
  t183 := Tryz.underlying141
  a183 := Tryz.isAgg141
  z183 := Tryz.sizeOf141
  v183 := Tryz.zeroValue141
  t218 := Tryz.underlying171
  a218 := Tryz.isAgg171
  z218 := Tryz.sizeOf171
  v218 := Tryz.zeroValue171
  t222 := Tryz.underlying175
  a222 := Tryz.isAgg175
  z222 := Tryz.sizeOf175
  v222 := Tryz.zeroValue175
  t228 := Tryz.underlying191
  a228 := Tryz.isAgg191
  z228 := Tryz.sizeOf191
  v228 := Tryz.zeroValue191
  t229 := Tryz.underlying28
  a229 := Tryz.isAgg28
  z229 := Tryz.sizeOf28
  v229 := Tryz.zeroValue28 }
open Go.Sort Go.RowKit in
theorem Tryz.slices_Sort_int (blk off cap : Nat) (zs : List Int) (w : World) (hH : Holds (Value.int .i64) w blk off zs.toArray) (hblk : blk < w.heap.size) (hsz : zs.length < 4611686018427387904) :
    Calls Tryz.prog 54 #[.slice (some ⟨blk, off, none⟩) zs.length cap] w fun e w' =>
      e = .returned (.tuple #[]) ∧ ∃ n os, w' = grow (putRow (Value.int .i64) (Sort.ahead w n) blk off (zs.mergeSort fun x y => decide (x ≤ y)).toArray) os := Any.slices_Sort_int Tryz.lays189 blk off cap zs w hH hblk hsz
def Tryz.laysNm220_ren : Go.Shelf.Ren := ⟨fun | 20 => 55 | n => n, fun | 22 => 53 | 3 => 3 | 4 => 4 | 0 => 0 | n => n, fun | n => n⟩
theorem Tryz.laysNm220 : Go.Proofs.Lays2.n20 Tryz.prog Tryz.laysNm220_ren := {
  mixed := by kernel_rfl
  f20 := Tryz.func55.trans (congrArg some (by kernel_rfl))
  t0 := Tryz.underlying0
  a0 := Tryz.isAgg0
  z0 := Tryz.sizeOf0
  v0 := Tryz.zeroValue0
  t3 := Tryz.underlying3
  a3 := Tryz.isAgg3
  z3 := Tryz.sizeOf3
  v3 := Tryz.zeroValue3
  t4 := Tryz.underlying4
  a4 := Tryz.isAgg4
  z4 := Tryz.sizeOf4
  v4 := Tryz.zeroValue4
  t22 := Tryz.underlying53
  a22 := Tryz.isAgg53
  z22 := Tryz.sizeOf53
  v22 := Tryz.zeroValue53
  i3 := by kernel_rfl }
open Go.RowKit Go.Lib Go.Sort in
theorem Tryz.slices_Compact_int (blk off cap : Nat) (zs : List Int) (w : World) (hH : Holds (Value.int .i64) w blk off zs.toArray) (hsz : zs.length ≤ 9223372036854775807) (hcap : zs.length ≤ cap) :
    Calls Tryz.prog 55 #[.slice (some ⟨blk, off, none⟩) zs.length cap] w fun e w' => e = .returned (.slice (some ⟨blk, off, none⟩) (Lib.compact zs).length cap) ∧ ∃ q, w' = putRow (Value.int .i64) (Sort.ahead w q) blk off (Lib.compact zs ++ List.replicate (zs.length - (Lib.compact zs).length) 0).toArray := Any.slices_Compact_int Tryz.laysNm220 blk off cap zs w hH hsz hcap
end Go.Proofs

namespace Go.VM
open Go.Proofs Go
set_option maxRecDepth 100000
set_option linter.unusedVariables false
set_option linter.unusedSimpArgs false
theorem insNil (g : Nat → Nat → D) : VFun (P ()) 138 [.d (.sl 0 1 g), .d (.int .i64 0), .d (.int .i64 0)] (fun r => r = .tup []) := by
  refine vfunO (Tf := fun {_} _ => fzT [] (T ())) (fun {_} => tabOk.frz []) [(4, upF 0 15), (6, upF 0 18)] 400 Tryz.func138 rfl (fun {_} => by kernel_rfl) rfl (Nat.le_of_ble_eq_true rfl) @fun ⟨_, _, _, _, _, _, _, _, _, _, _, _, _, _, _, _, _, _, _, _, _, _, _, _, _, _, _, _, _, _, _, _, _, _, _, _, _, _, wp, wf⟩ R hR => ?_
  cbv
  try simp only [wp, (show ∀ n : Nat, _ = n from fun n => wf.2.2.2.2.2.2.2.2.2.2.2.2.2.1 (Int.ofNat n)), getL, takeL, dropL, TK.isAgg, reduceIte]
  refine loopO (Tf := fun {_} _ => fzT [] (T ())) (fun {_} => tabOk.frz []) [(4, upF 0 15), (6, upF 0 18)] 400 (fun y : Unit => ⟨[.d (.sl 0 1 g), .d (.int .i64 0), .d (.int .i64 0), .undef, .undef, .undef, .d (.int .i64 1), .undef, .undef, .undef, .undef, .undef, .undef, .undef, .undef, .undef, .undef, .undef, .undef, .undef, .undef, .undef, .undef, .undef, .undef, .undef, .undef, .undef, .undef, .undef, .undef, .undef, .undef, .undef, .undef, .undef, .undef, .undef, .undef, .undef, .undef, .undef, .undef, .undef, .undef, .undef, .undef, .undef, .undef], []⟩) (fun y => 0) (fun y => True) () trivial (fun {_} => by kernel_rfl) ?_ (fun i => by kernel_rfl) @fun ⟨_, _, _, _, _, _, _, _, _, _, _, _, _, _, _, _, _, _, _, _, _, _, _, _, _, _, _, _, _, _, _, _, _, _, _, _, _, _, wpa, wfa⟩ _ Bk hi hBk => ?_
  · ((cbv; try simp only [wf, exD, exL, exT, exB, exA, leLs, leL_d, leL_undef, leL_nils, leA_nils, deq_refl, deq_int, deq_bool, deq_str, and_true, true_and, AObj.iter.injEq, nc, nc']; try simp (disch := omega) only [w64, w32, wu8]); first | done | rfl | omega | (simp; done) | (simp; omega) | skip)
  (cbv; try simp only [wp, (show ∀ n : Nat, _ = n from fun n => wf.2.2.2.2.2.2.2.2.2.2.2.2.2.1 (Int.ofNat n)), (show _ = (0 : Nat) from wf.2.2.2.2.2.2.2.2.2.2.2.2.2.1 0), wpa, (show ∀ n : Nat, _ = n from fun n => wfa.2.2.2.2.2.2.2.2.2.2.2.2.2.1 (Int.ofNat n)), (show _ = (0 : Nat) from wfa.2.2.2.2.2.2.2.2.2.2.2.2.2.1 0), getL, takeL, dropL, TK.isAgg, reduceIte])
  refine ⟨fun e => ?_, fun e => ?_⟩
  · exact absurd e (by (try simp only [wf, wfa, nc, nc', Int.toNat_natCast, bsz, ByteArray.size_append, List.length_cons, List.length_nil] at *); (try simp (disch := omega) only [w64, w32, wu8] at *); first | done | omega)
  · (refine Later.mk ?_; cbv; try simp only [wp, (show ∀ n : Nat, _ = n from fun n => wf.2.2.2.2.2.2.2.2.2.2.2.2.2.1 (Int.ofNat n)), (show _ = (0 : Nat) from wf.2.2.2.2.2.2.2.2.2.2.2.2.2.1 0), wpa, (show ∀ n : Nat, _ = n from fun n => wfa.2.2.2.2.2.2.2.2.2.2.2.2.2.1 (Int.ofNat n)), (show _ = (0 : Nat) from wfa.2.2.2.2.2.2.2.2.2.2.2.2.2.1 0), getL, takeL, dropL, TK.isAgg, reduceIte])
    exact hR _ _ _ (.tup [] [] rfl (fun k hk => absurd hk (by simp))) rfl
theorem pdqNil (g : Nat → Nat → D) (z : Int) : VFun (P ()) 95 [.d (.sl 0 1 g), .d (.int .i64 0), .d (.int .i64 0), .d (.int .i64 z)] (fun r => r = .tup []) := by
  refine vfunO (Tf := fun {_} _ => fzT [] (T ())) (fun {_} => tabOk.frz []) [(17, upF 0 15)] 400 Tryz.func95 rfl (fun {_} => by kernel_rfl) rfl (Nat.le_of_ble_eq_true rfl) @fun ⟨_, _, _, _, _, _, _, _, _, _, _, _, _, _, _, _, _, _, _, _, _, _, _, _, _, _, _, _, _, _, _, _, _, _, _, _, _, _, wp, wf⟩ R hR => ?_
  cbv
  try simp only [wp, (show ∀ n : Nat, _ = n from fun n => wf.2.2.2.2.2.2.2.2.2.2.2.2.2.1 (Int.ofNat n)), getL, takeL, dropL, TK.isAgg, reduceIte]
  refine loopO (Tf := fun {_} _ => fzT [] (T ())) (fun {_} => tabOk.frz []) [(17, upF 0 15)] 400 (fun y : Unit => ⟨[.d (.sl 0 1 g), .d (.int .i64 0), .d (.int .i64 0), .d (.int .i64 z), .undef, .undef, .undef, .undef, .d (.bool true), .d (.bool true), .undef, .undef, .undef, .undef, .undef, .undef, .undef, .undef, .undef, .undef, .undef, .undef, .undef, .undef, .undef, .undef, .undef, .undef, .undef, .undef, .undef, .undef, .undef, .undef, .undef, .undef, .undef, .undef, .undef, .undef, .undef, .undef, .undef, .undef, .undef, .undef, .undef, .undef, .undef, .undef, .undef, .undef, .undef, .undef, .undef, .undef, .undef, .undef, .undef, .undef, .undef, .undef, .undef, .undef, .undef, .undef, .undef, .undef, .undef, .undef, .undef, .undef, .undef, .undef, .undef, .undef, .undef, .undef, .undef, .undef, .undef, .undef, .undef, .undef, .undef, .undef, .undef, .undef, .undef, .undef, .undef, .undef, .undef, .undef, .undef, .undef, .undef, .undef, .undef, .undef, .undef, .undef, .undef, .undef, .undef, .undef, .undef, .undef, .undef, .undef, .undef, .undef, .undef, .undef, .undef, .undef, .undef, .undef, .undef, .undef, .undef, .undef, .undef, .undef, .undef, .undef, .undef, .undef, .undef, .undef, .undef, .undef, .undef, .undef], []⟩) (fun y => 0) (fun y => True) () trivial (fun {_} => by kernel_rfl) ?_ (fun i => by kernel_rfl) @fun ⟨_, _, _, _, _, _, _, _, _, _, _, _, _, _, _, _, _, _, _, _, _, _, _, _, _, _, _, _, _, _, _, _, _, _, _, _, _, _, wpa, wfa⟩ _ Bk hi hBk => ?_
  · ((cbv; try simp only [wf, exD, exL, exT, exB, exA, leLs, leL_d, leL_undef, leL_nils, leA_nils, deq_refl, deq_int, deq_bool, deq_str, and_true, true_and, AObj.iter.injEq, nc, nc']; try simp (disch := omega) only [w64, w32, wu8]); first | done | rfl | omega | (simp; done) | (simp; omega) | skip)
  (cbv; try simp only [wp, (show ∀ n : Nat, _ = n from fun n => wf.2.2.2.2.2.2.2.2.2.2.2.2.2.1 (Int.ofNat n)), (show _ = (0 : Nat) from wf.2.2.2.2.2.2.2.2.2.2.2.2.2.1 0), wpa, (show ∀ n : Nat, _ = n from fun n => wfa.2.2.2.2.2.2.2.2.2.2.2.2.2.1 (Int.ofNat n)), (show _ = (0 : Nat) from wfa.2.2.2.2.2.2.2.2.2.2.2.2.2.1 0), getL, takeL, dropL, TK.isAgg, reduceIte])
  refine ⟨fun e => ?_, fun e => ?_⟩
  · (refine Later.mk ?_; cbv; try simp only [wp, (show ∀ n : Nat, _ = n from fun n => wf.2.2.2.2.2.2.2.2.2.2.2.2.2.1 (Int.ofNat n)), (show _ = (0 : Nat) from wf.2.2.2.2.2.2.2.2.2.2.2.2.2.1 0), wpa, (show ∀ n : Nat, _ = n from fun n => wfa.2.2.2.2.2.2.2.2.2.2.2.2.2.1 (Int.ofNat n)), (show _ = (0 : Nat) from wfa.2.2.2.2.2.2.2.2.2.2.2.2.2.1 0), getL, takeL, dropL, TK.isAgg, reduceIte])
    refine (insNil g).call ?_
    rintro _ rfl
    (cbv; try simp only [wp, (show ∀ n : Nat, _ = n from fun n => wf.2.2.2.2.2.2.2.2.2.2.2.2.2.1 (Int.ofNat n)), (show _ = (0 : Nat) from wf.2.2.2.2.2.2.2.2.2.2.2.2.2.1 0), wpa, (show ∀ n : Nat, _ = n from fun n => wfa.2.2.2.2.2.2.2.2.2.2.2.2.2.1 (Int.ofNat n)), (show _ = (0 : Nat) from wfa.2.2.2.2.2.2.2.2.2.2.2.2.2.1 0), getL, takeL, dropL, TK.isAgg, reduceIte])
    exact hR _ _ _ (.tup [] [] rfl (fun k hk => absurd hk (by simp))) rfl
  · exact absurd e (by (try simp only [wf, wfa, nc, nc', Int.toNat_natCast, bsz, ByteArray.size_append, List.length_cons, List.length_nil] at *); (try simp (disch := omega) only [w64, w32, wu8] at *); first | done | omega)
theorem sortNil (g : Nat → Nat → D) : VFun (P ()) 54 [.d (.sl 0 1 g)] (fun r => r = .tup []) := by
  refine vfunO (Tf := fun {_} _ => fzT [] (T ())) (fun {_} => tabOk.frz []) [] 400 Tryz.func54 rfl (fun {_} => by kernel_rfl) rfl (Nat.le_of_ble_eq_true rfl) @fun ⟨_, _, _, _, _, _, _, _, _, _, _, _, _, _, _, _, _, _, _, _, _, _, _, _, _, _, _, _, _, _, _, _, _, _, _, _, _, _, wp, wf⟩ R hR => ?_
  cbv
  try simp only [wp, (show ∀ n : Nat, _ = n from fun n => wf.2.2.2.2.2.2.2.2.2.2.2.2.2.1 (Int.ofNat n)), getL, takeL, dropL, TK.isAgg, reduceIte]
  refine (bLen _ ?_ ?_).call ?_
  · ((try simp only [wf, nc, nc', Int.toNat_natCast, bsz, ByteArray.size_append, List.length_cons, List.length_nil] at *); (try simp (disch := omega) only [w64, w32, wu8] at *))
    rw [wu64 (by omega) (by omega)]; omega
  · ((try simp only [wf, nc, nc', Int.toNat_natCast, bsz, ByteArray.size_append, List.length_cons, List.length_nil] at *); (try simp (disch := omega) only [w64, w32, wu8] at *))
    rw [wu64 (by omega) (by omega)]; omega
  rintro _ ⟨z, rfl⟩
  (cbv; try simp only [wp, (show ∀ n : Nat, _ = n from fun n => wf.2.2.2.2.2.2.2.2.2.2.2.2.2.1 (Int.ofNat n)), (show _ = (0 : Nat) from wf.2.2.2.2.2.2.2.2.2.2.2.2.2.1 0), getL, takeL, dropL, TK.isAgg, reduceIte])
  refine CallW.args (args' := [.d (.sl 0 1 g), .d (.int .i64 0), .d (.int .i64 0), .d (.int .i64 z)]) (fun {_ _} => ⟨.refl _, .refl _, (Deq.of_eq (congrArg (D.int .i64) (by (try simp only [wf, nc, nc', Int.toNat_natCast, bsz, ByteArray.size_append, List.length_cons, List.length_nil] at *); (try simp (disch := omega) only [w64, w32, wu8] at *); first | done | omega))), .refl _, trivial⟩) ((pdqNil g z).call ?_)
  rintro _ rfl
  (cbv; try simp only [wp, (show ∀ n : Nat, _ = n from fun n => wf.2.2.2.2.2.2.2.2.2.2.2.2.2.1 (Int.ofNat n)), (show _ = (0 : Nat) from wf.2.2.2.2.2.2.2.2.2.2.2.2.2.1 0), getL, takeL, dropL, TK.isAgg, reduceIte])
  exact hR _ _ _ (.tup [] [] rfl (fun k hk => absurd hk (by simp))) rfl
theorem compactNil (g : Nat → Nat → D) : VFun (P ()) 55 [.d (.sl 0 1 g)] (fun r => r = .d (.sl 0 1 g)) := by
  refine vfunO (Tf := fun {_} _ => fzT [] (T ())) (fun {_} => tabOk.frz []) [(6, upF 0 10), (11, upF 0 10)] 400 Tryz.func55 rfl (fun {_} => by kernel_rfl) rfl (Nat.le_of_ble_eq_true rfl) @fun ⟨_, _, _, _, _, _, _, _, _, _, _, _, _, _, _, _, _, _, _, _, _, _, _, _, _, _, _, _, _, _, _, _, _, _, _, _, _, _, wp, wf⟩ R hR => ?_
  cbv
  try simp only [wp, (show ∀ n : Nat, _ = n from fun n => wf.2.2.2.2.2.2.2.2.2.2.2.2.2.1 (Int.ofNat n)), getL, takeL, dropL, TK.isAgg, reduceIte]
  repeat' first | with_reducible refine And.intro ?_ ?_ | intro c9
  · (refine Later.mk ?_; cbv; try simp only [wp, (show ∀ n : Nat, _ = n from fun n => wf.2.2.2.2.2.2.2.2.2.2.2.2.2.1 (Int.ofNat n)), (show _ = (0 : Nat) from wf.2.2.2.2.2.2.2.2.2.2.2.2.2.1 0), getL, takeL, dropL, TK.isAgg, reduceIte])
    exact hR _ _ _ (.d _) rfl
  · exact absurd c9 (by (try simp only [wf, nc, nc', Int.toNat_natCast, bsz, ByteArray.size_append, List.length_cons, List.length_nil] at *); (try simp (disch := omega) only [w64, w32, wu8] at *); first | done | omega)
theorem sortO {n : Nat} {N : Nat → Int} (hn : 0 < n) (hn2 : n < 4611686018427387904) : VCalls (P ()) 54 [.ref 0 0 n 1] [.arr n 1 (nuF N) 0] (fun r H => r = .tup [] ∧ ∃ N', numsL N' n = ((numsL N n).mergeSort fun x y => decide (x ≤ y)) ∧ H = [.arr n 1 (nuF N') 0]) :=
  VCalls.sortI (fun blk cap zs w h1 h2 h3 => Tryz.slices_Sort_int blk 0 cap zs w h1 h2 h3) hn hn2
theorem compactO {n : Nat} {N : Nat → Int} (hn : 0 < n) (hn2 : n ≤ 9223372036854775807) : VCalls (P ()) 55 [.ref 0 0 n 1] [.arr n 1 (nuF N) 0] (fun r H => ∃ k N', numsL N' k = Lib.compact (numsL N n) ∧ k ≤ n ∧ r = .ref 1 0 k 1 ∧ H = [.dead, .arr k 1 (nuF N') 0]) :=
  VCalls.compactI (fun blk cap zs w h1 h2 h3 => Tryz.slices_Compact_int blk 0 cap zs w h1 h2 h3) hn hn2
theorem LVars (c : Int) (n : Nat) (V P0 : Nat → Int) (hn : n < 2 ^ 20) : VFun (P ()) 53 [lv c n V P0] (VarsR V n) := by
  refine vfunO (Tf := fun {_} _ => fzT [1] (T ())) (fun {_} => tabOk.frz [1]) [] 400 Tryz.func53 rfl (fun {_} => by kernel_rfl) rfl (Nat.le_of_ble_eq_true rfl) @fun ⟨_, _, _, _, _, _, _, _, _, _, _, _, _, _, _, _, _, _, _, _, _, _, _, _, _, _, _, _, _, _, _, _, _, _, _, _, _, _, wp, wf⟩ R hR => ?_
  cbv
  try simp only [wp, (show ∀ n : Nat, _ = n from fun n => wf.2.2.2.2.2.2.2.2.2.2.2.2.2.1 (Int.ofNat n)), getL, takeL, dropL, TK.isAgg, reduceIte]
  replace hR := fun m U H r h1 h2 hf => hR r H (.d (.sl m 1 (nsF .i64 U))) hf ⟨m, U, h1, h2, rfl⟩
  by_cases h0 : n = 0
  · subst h0
    refine loopO (Tf := fun {_} _ => fzT [1] (T ())) (fun {_} => tabOk.frz [1]) [] 400 (fun y : Unit => ⟨[.undef, .undef, .nils, .d (.sl 0 1 (nsF .i64 V)), .undef, .undef, .undef, .d (.sl 0 2 (lvF V P0)), .d (.int .i64 0), .d (.int .i64 0), .undef, .undef, .undef, .undef, .undef, .undef, .undef, .undef, .undef, .undef, .undef, .undef, .undef], []⟩) (fun y => 0) (fun y => True) () trivial (fun {_} => by kernel_rfl) ?_ (fun i => by kernel_rfl) @fun ⟨_, _, _, _, _, _, _, _, _, _, _, _, _, _, _, _, _, _, _, _, _, _, _, _, _, _, _, _, _, _, _, _, _, _, _, _, _, _, wpa, wfa⟩ _ Bk hi hBk => ?_
    · ((cbv; try simp only [wf, exD, exL, exT, exB, exA, leLs, leL_d, leL_undef, leL_nils, leA_nils, deq_refl, deq_int, deq_bool, deq_str, and_true, true_and, AObj.iter.injEq, nc, nc']; try simp (disch := omega) only [w64, w32, wu8]); first | done | rfl | omega | (simp; done) | (simp; omega) | skip)
    (cbv; try simp only [wp, (show ∀ n : Nat, _ = n from fun n => wf.2.2.2.2.2.2.2.2.2.2.2.2.2.1 (Int.ofNat n)), (show _ = (0 : Nat) from wf.2.2.2.2.2.2.2.2.2.2.2.2.2.1 0), wpa, (show ∀ n : Nat, _ = n from fun n => wfa.2.2.2.2.2.2.2.2.2.2.2.2.2.1 (Int.ofNat n)), (show _ = (0 : Nat) from wfa.2.2.2.2.2.2.2.2.2.2.2.2.2.1 0), getL, takeL, dropL, TK.isAgg, reduceIte])
    refine ⟨fun e => ?_, fun e => ?_⟩
    · exact absurd e (by (try simp only [wf, wfa, nc, nc', Int.toNat_natCast, bsz, ByteArray.size_append, List.length_cons, List.length_nil] at *); (try simp (disch := omega) only [w64, w32, wu8] at *); first | done | omega)
    · (refine Later.mk ?_; cbv; try simp only [wp, (show ∀ n : Nat, _ = n from fun n => wf.2.2.2.2.2.2.2.2.2.2.2.2.2.1 (Int.ofNat n)), (show _ = (0 : Nat) from wf.2.2.2.2.2.2.2.2.2.2.2.2.2.1 0), wpa, (show ∀ n : Nat, _ = n from fun n => wfa.2.2.2.2.2.2.2.2.2.2.2.2.2.1 (Int.ofNat n)), (show _ = (0 : Nat) from wfa.2.2.2.2.2.2.2.2.2.2.2.2.2.1 0), getL, takeL, dropL, TK.isAgg, reduceIte])
      refine (sortNil _).call ?_
      rintro _ rfl
      (cbv; try simp only [wp, (show ∀ n : Nat, _ = n from fun n => wf.2.2.2.2.2.2.2.2.2.2.2.2.2.1 (Int.ofNat n)), (show _ = (0 : Nat) from wf.2.2.2.2.2.2.2.2.2.2.2.2.2.1 0), wpa, (show ∀ n : Nat, _ = n from fun n => wfa.2.2.2.2.2.2.2.2.2.2.2.2.2.1 (Int.ofNat n)), (show _ = (0 : Nat) from wfa.2.2.2.2.2.2.2.2.2.2.2.2.2.1 0), getL, takeL, dropL, TK.isAgg, reduceIte])
      refine (compactNil _).call ?_
      rintro _ rfl
      (cbv; try simp only [wp, (show ∀ n : Nat, _ = n from fun n => wf.2.2.2.2.2.2.2.2.2.2.2.2.2.1 (Int.ofNat n)), (show _ = (0 : Nat) from wf.2.2.2.2.2.2.2.2.2.2.2.2.2.1 0), wpa, (show ∀ n : Nat, _ = n from fun n => wfa.2.2.2.2.2.2.2.2.2.2.2.2.2.1 (Int.ofNat n)), (show _ = (0 : Nat) from wfa.2.2.2.2.2.2.2.2.2.2.2.2.2.1 0), getL, takeL, dropL, TK.isAgg, reduceIte])
      exact hR 0 V _ _ (.compact (N' := V) (by simp [numsL]) (by simp [numsL, Lib.compact, Lib.compactUpTo])) (Nat.le_refl _) (.d _)
  · refine loopGhost 3 1 rfl ?_
    refine loopO (Tf := fun {_} _ => fzT [1] (T ())) (fun {_} => tabOk.frz [1]) [] 400 (fun i : Nat => ⟨[.undef, .undef, .nils, .ref 0 0 i 1, .undef, .undef, .undef, .d (.sl n 2 (lvF V P0)), .d (.int .i64 n), .d (.int .i64 i), .undef, .undef, .undef, .undef, .undef, .undef, .undef, .undef, .undef, .undef, .undef, .undef, .undef], [.arr i 1 (nsF .i64 V) 0]⟩) (fun i => n - i) (fun i => i ≤ n) 0 (Nat.zero_le _) (fun {_} => by kernel_rfl) ?_ (fun i => by kernel_rfl) @fun ⟨_, _, _, _, _, _, _, _, _, _, _, _, _, _, _, _, _, _, _, _, _, _, _, _, _, _, _, _, _, _, _, _, _, _, _, _, _, _, wpa, wfa⟩ i Bk hi hBk => ?_
    · (cbv; try simp only [wf, exD, exL, exT, exB, exA, leLs, leL_d, leL_undef, leL_nils, leA_nils, deq_refl, deq_int, deq_bool, deq_str, and_true, true_and, AObj.iter.injEq, nc, nc']; try simp (disch := omega) only [w64, w32, wu8])
      exact ⟨rfl, Nat.le_refl _, Nat.le_refl _, fun i j hi => absurd hi (Nat.not_lt_zero _)⟩
    (cbv; try simp only [wp, (show ∀ n : Nat, _ = n from fun n => wf.2.2.2.2.2.2.2.2.2.2.2.2.2.1 (Int.ofNat n)), (show _ = (0 : Nat) from wf.2.2.2.2.2.2.2.2.2.2.2.2.2.1 0), wpa, (show ∀ n : Nat, _ = n from fun n => wfa.2.2.2.2.2.2.2.2.2.2.2.2.2.1 (Int.ofNat n)), (show _ = (0 : Nat) from wfa.2.2.2.2.2.2.2.2.2.2.2.2.2.1 0), getL, takeL, dropL, TK.isAgg, reduceIte])
    refine ⟨fun e => ?_, fun e => ?_⟩
    · have e : i < n := (by (try simp only [wf, wfa, nc, nc', Int.toNat_natCast, bsz, ByteArray.size_append, List.length_cons, List.length_nil] at *); (try simp (disch := omega) only [w64, w32, wu8] at *); first | done | omega)
      (refine Later.mk ?_; cbv; try simp only [wp, (show ∀ n : Nat, _ = n from fun n => wf.2.2.2.2.2.2.2.2.2.2.2.2.2.1 (Int.ofNat n)), (show _ = (0 : Nat) from wf.2.2.2.2.2.2.2.2.2.2.2.2.2.1 0), wpa, (show ∀ n : Nat, _ = n from fun n => wfa.2.2.2.2.2.2.2.2.2.2.2.2.2.1 (Int.ofNat n)), (show _ = (0 : Nat) from wfa.2.2.2.2.2.2.2.2.2.2.2.2.2.1 0), getL, takeL, dropL, TK.isAgg, reduceIte])
      repeat' first | with_reducible refine And.intro ?_ ?_ | intro c9
      all_goals first | exact (by (try simp only [wf, wfa, nc, nc', Int.toNat_natCast, bsz, ByteArray.size_append, List.length_cons, List.length_nil] at *); (try simp (disch := omega) only [w64, w32, wu8] at *); first | done | omega) | trivial | skip
      refine hBk (i + 1) _ (by omega) (by omega) ?_
      (cbv; try simp only [wf, wfa, exD, exL, exT, exB, exA, leLs, leL_d, leL_undef, leL_nils, leA_nils, deq_refl, deq_int, deq_bool, deq_str, and_true, true_and, AObj.iter.injEq, nc, nc']; try simp (disch := omega) only [w64, w32, wu8])
      ((try simp only [wf, wfa, nc, nc', Int.toNat_natCast, bsz, ByteArray.size_append, List.length_cons, List.length_nil] at *); (try simp (disch := omega) only [w64, w32, wu8] at *))
      exact ⟨by omega, Nat.le_refl _, Nat.zero_le _, fun x k hx hk => .of_eq (app_row2 (g' := nsF .i64 V) (fun _ _ _ _ => rfl) (fun k hk => by
        obtain rfl : k = 0 := by omega
        rfl) x k hx hk)⟩
    · obtain rfl : i = n := (by (try simp only [wf, wfa, nc, nc', Int.toNat_natCast, bsz, ByteArray.size_append, List.length_cons, List.length_nil] at *); (try simp (disch := omega) only [w64, w32, wu8] at *); first | done | omega)
      (refine Later.mk ?_; cbv; try simp only [wp, (show ∀ n : Nat, _ = n from fun n => wf.2.2.2.2.2.2.2.2.2.2.2.2.2.1 (Int.ofNat n)), (show _ = (0 : Nat) from wf.2.2.2.2.2.2.2.2.2.2.2.2.2.1 0), wpa, (show ∀ n : Nat, _ = n from fun n => wfa.2.2.2.2.2.2.2.2.2.2.2.2.2.1 (Int.ofNat n)), (show _ = (0 : Nat) from wfa.2.2.2.2.2.2.2.2.2.2.2.2.2.1 0), getL, takeL, dropL, TK.isAgg, reduceIte])
      refine CallW.within (sortO (n := i) (N := V) (by omega) (by omega)) [0] rfl ⟨rfl, trivial⟩ rfl ?_
      rintro _ _ ⟨rfl, N', h1, rfl⟩
      refine ⟨[.arr i 1 (nuF N') 0], [], rfl, Nat.le_refl _, ⟨Nat.zero_le _, trivial⟩, rfl, ?_⟩
      (cbv; try simp only [wp, (show ∀ n : Nat, _ = n from fun n => wf.2.2.2.2.2.2.2.2.2.2.2.2.2.1 (Int.ofNat n)), (show _ = (0 : Nat) from wf.2.2.2.2.2.2.2.2.2.2.2.2.2.1 0), wpa, (show ∀ n : Nat, _ = n from fun n => wfa.2.2.2.2.2.2.2.2.2.2.2.2.2.1 (Int.ofNat n)), (show _ = (0 : Nat) from wfa.2.2.2.2.2.2.2.2.2.2.2.2.2.1 0), getL, takeL, dropL, TK.isAgg, reduceIte])
      refine CallW.within (compactO (n := i) (N := N') (by omega) (by omega)) [0] rfl ⟨rfl, trivial⟩ rfl ?_
      rintro _ _ ⟨k, U, h2, h3, rfl, rfl⟩
      refine ⟨[.dead, .arr k 1 (nuF U) 0], [], rfl, Nat.le_succ _, ⟨trivial, Nat.zero_le _, trivial⟩, rfl, ?_⟩
      (cbv; try simp only [wp, (show ∀ n : Nat, _ = n from fun n => wf.2.2.2.2.2.2.2.2.2.2.2.2.2.1 (Int.ofNat n)), (show _ = (0 : Nat) from wf.2.2.2.2.2.2.2.2.2.2.2.2.2.1 0), wpa, (show ∀ n : Nat, _ = n from fun n => wfa.2.2.2.2.2.2.2.2.2.2.2.2.2.1 (Int.ofNat n)), (show _ = (0 : Nat) from wfa.2.2.2.2.2.2.2.2.2.2.2.2.2.1 0), getL, takeL, dropL, TK.isAgg, reduceIte])
      exact hR k U _ _ (.compact h1 h2) h3 (.ref0 1 k 1 k 0 _ rfl rfl)
end Go.VM

namespace Go.VM
open Go.Proofs Go
set_option maxRecDepth 100000
set_option linter.unusedVariables false
set_option linter.unusedSimpArgs false
structure Ly where
  i : Nat
  l : Nat
  U : Nat → Int
/-- numbers that are collected in a variable of another function -/
abbrev hpC (l : Nat) (U : Nat → Int) : AHeap := [.box [.ref 1 0 l 1], .arr l 1 (nuF U) 0]
theorem VCalls.coll [Glb] {P : Program} {K : FuncId} {args : List A} {l : Nat} {U : Nat → Int} {R : Nat → (Nat → Int) → Prop} (h : VCalls P K args (hpC l U) (fun r H => ∃ l' U' g K2, (∀ i, i < l' → g i 0 = .int .i64 (U' i)) ∧ R l' U' ∧ r = .tup [] ∧ H = [.box [.ref 1 0 l' 1], .arr l' 1 g 0] ++ K2))
    (ha : belA.belAs 2 args = true) (hren : ren.renL (fun i => i) args = args) : VCalls P K args (hpC l U) (fun r H => ∃ l' U', R l' U' ∧ r = .tup [] ∧ H = hpC l' U') :=
  VCalls.ice2 h rfl ha hren rfl fun r H' h => by
    obtain ⟨l', U', g, K2, h0, h1, rfl, rfl⟩ := h
    exact ⟨.tup [], hpC l' U', fun {_ _} => ⟨⟨_, rfl, rfl, trivial⟩, ⟨_, _, rfl, Nat.zero_le _, Nat.zero_le _, fun i j hi hj => .of_eq (by
      obtain rfl : j = 0 := by omega
      exact h0 i hi)⟩, trivial⟩, rfl, .tup [] [] rfl (fun k hk => absurd hk (by simp)), rfl, rfl, l', U', h1, rfl, rfl⟩
theorem levs1 (l : Nat) (U : Nat → Int) (op n : Int) (s : ByteArray) (k : Nat) (C : Nat → Int) (N : Nat → Nat) (W Q : Nat → Nat → Int) (m : Nat) (G : Nat → Nat → D) (hk : k ≤ 4194304) (hN : ∀ i, i < k → N i ≤ 1048575) (hl : l + sumF N k ≤ 2 ^ 30) :
    VCalls (P ()) 52 [tml op n s k C N W Q m G, .ptr 0 0] (hpC l U) (fun r H => ∃ l' U', (l' ≤ l + sumF N k ∧ ∀ v, v ∈ numsL U' l' ↔ v ∈ numsL U l ∨ ∃ i, i < k ∧ ∃ j, j < N i ∧ W i j = v) ∧ r = .tup [] ∧ H = hpC l' U') := by
  refine VCalls.coll ?_ rfl rfl
  have hv := fun i hi => LVars (C i) (N i) (W i) (Q i) (by have := hN i hi; omega)
  refine VCalls_of_Wl (Tf := fun {_} _ => fzT [2] (T ())) (fun {_} => tabOk.frz [2]) [] 400 Tryz.func52 rfl (fun {_} => by kernel_rfl) (Nat.le_of_ble_eq_true rfl) @fun ⟨_, _, _, _, _, _, _, _, _, _, _, _, _, _, _, _, _, _, _, _, _, _, _, _, _, _, _, _, _, _, _, _, _, _, _, _, _, _, wp, wf⟩ nH R hnH hR => ?_
  subst hnH
  cbv
  try simp only [wp, (show ∀ n : Nat, _ = n from fun n => wf.2.2.2.2.2.2.2.2.2.2.2.2.2.1 (Int.ofNat n)), getL, takeL, dropL, TK.isAgg, reduceIte]
  repeat' first | (with_reducible refine And.intro ?_ ?_) | intro c9 | trivial | (refine Later.mk ?_; cbv; try simp only [wp, (show ∀ n : Nat, _ = n from fun n => wf.2.2.2.2.2.2.2.2.2.2.2.2.2.1 (Int.ofNat n)), (show _ = (0 : Nat) from wf.2.2.2.2.2.2.2.2.2.2.2.2.2.1 0), getL, takeL, dropL, TK.isAgg, reduceIte])
  refine loopL (Tf := fun {_} _ => fzT [2] (T ())) (fun {_} => tabOk.frz [2]) [] 400 (fun y : Ly => ⟨[.undef, .ptr 0 0, .undef, .undef, .undef, .undef, .d (.sl k 2 (lsF C N W Q)), .d (.int .i64 k), .d (.int .i64 y.i), .undef, .undef, .undef, .undef, .undef, .undef, .undef, .undef], hpC y.l y.U⟩) (fun y => k - y.i) (fun y => y.i ≤ k ∧ y.l ≤ l + sumF N y.i ∧ ∀ v, v ∈ numsL y.U y.l ↔ v ∈ numsL U l ∨ ∃ i, i < y.i ∧ ∃ j, j < N i ∧ W i j = v) ⟨0, l, U⟩ ⟨Nat.zero_le _, Nat.le_refl _, fun v => ⟨fun h => .inl h, fun h => h.elim (fun h => h) fun ⟨i, hi, _⟩ => absurd hi (Nat.not_lt_zero _)⟩⟩ (fun {_} => by kernel_rfl) ?_ (fun i => by kernel_rfl) @fun ⟨_, _, _, _, _, _, _, _, _, _, _, _, _, _, _, _, _, _, _, _, _, _, _, _, _, _, _, _, _, _, _, _, _, _, _, _, _, _, wpa, wfa⟩ ⟨i, l1, U1⟩ Bk hi hBk => ?_
  · (cbv; try simp only [wf, exD, exL, exT, exB, exA, leLs, leL_d, leL_undef, leL_nils, leA_nils, deq_refl, deq_int, deq_bool, deq_str, and_true, true_and, AObj.iter.injEq, nc, nc']; try simp (disch := omega) only [w64, w32, wu8])
    exact ⟨rfl, rfl, Nat.le_refl _, Nat.zero_le _, fun _ _ _ _ => trivial⟩
  obtain ⟨i1, i2, i3⟩ := hi
  dsimp only at i1 i2 i3
  (cbv; try simp only [wp, (show ∀ n : Nat, _ = n from fun n => wf.2.2.2.2.2.2.2.2.2.2.2.2.2.1 (Int.ofNat n)), (show _ = (0 : Nat) from wf.2.2.2.2.2.2.2.2.2.2.2.2.2.1 0), wpa, (show ∀ n : Nat, _ = n from fun n => wfa.2.2.2.2.2.2.2.2.2.2.2.2.2.1 (Int.ofNat n)), (show _ = (0 : Nat) from wfa.2.2.2.2.2.2.2.2.2.2.2.2.2.1 0), getL, takeL, dropL, TK.isAgg, reduceIte])
  refine ⟨fun e => ?_, fun e => ?_⟩
  · have e : i < k := (by (try simp only [wf, wfa, nc, nc', Int.toNat_natCast, bsz, ByteArray.size_append, List.length_cons, List.length_nil] at *); (try simp (disch := omega) only [w64, w32, wu8] at *); first | done | omega)
    have sN := sumF_one (f := N) e
    have hv := hv i e
    (refine Later.mk ?_; cbv; try simp only [wp, (show ∀ n : Nat, _ = n from fun n => wf.2.2.2.2.2.2.2.2.2.2.2.2.2.1 (Int.ofNat n)), (show _ = (0 : Nat) from wf.2.2.2.2.2.2.2.2.2.2.2.2.2.1 0), wpa, (show ∀ n : Nat, _ = n from fun n => wfa.2.2.2.2.2.2.2.2.2.2.2.2.2.1 (Int.ofNat n)), (show _ = (0 : Nat) from wfa.2.2.2.2.2.2.2.2.2.2.2.2.2.1 0), getL, takeL, dropL, TK.isAgg, reduceIte])
    repeat' first | (with_reducible refine And.intro ?_ ?_) | intro c9 | trivial | (refine Later.mk ?_; cbv; try simp only [wp, (show ∀ n : Nat, _ = n from fun n => wf.2.2.2.2.2.2.2.2.2.2.2.2.2.1 (Int.ofNat n)), (show _ = (0 : Nat) from wf.2.2.2.2.2.2.2.2.2.2.2.2.2.1 0), wpa, (show ∀ n : Nat, _ = n from fun n => wfa.2.2.2.2.2.2.2.2.2.2.2.2.2.1 (Int.ofNat n)), (show _ = (0 : Nat) from wfa.2.2.2.2.2.2.2.2.2.2.2.2.2.1 0), getL, takeL, dropL, TK.isAgg, reduceIte])
    all_goals first | exact Nat.zero_le _ | exact (by (try simp only [wf, wfa, nc, nc', Int.toNat_natCast, bsz, ByteArray.size_append, List.length_cons, List.length_nil] at *); (try simp (disch := omega) only [w64, w32, wu8] at *); first | done | omega) | skip
    all_goals
      refine hv.call ?_
      rintro _ ⟨z, X, hX, hz, rfl⟩
      (cbv; try simp only [wp, (show ∀ n : Nat, _ = n from fun n => wf.2.2.2.2.2.2.2.2.2.2.2.2.2.1 (Int.ofNat n)), (show _ = (0 : Nat) from wf.2.2.2.2.2.2.2.2.2.2.2.2.2.1 0), wpa, (show ∀ n : Nat, _ = n from fun n => wfa.2.2.2.2.2.2.2.2.2.2.2.2.2.1 (Int.ofNat n)), (show _ = (0 : Nat) from wfa.2.2.2.2.2.2.2.2.2.2.2.2.2.1 0), getL, takeL, dropL, TK.isAgg, reduceIte])
      repeat' first | (with_reducible refine And.intro ?_ ?_) | intro c9 | trivial | (refine Later.mk ?_; cbv; try simp only [wp, (show ∀ n : Nat, _ = n from fun n => wf.2.2.2.2.2.2.2.2.2.2.2.2.2.1 (Int.ofNat n)), (show _ = (0 : Nat) from wf.2.2.2.2.2.2.2.2.2.2.2.2.2.1 0), wpa, (show ∀ n : Nat, _ = n from fun n => wfa.2.2.2.2.2.2.2.2.2.2.2.2.2.1 (Int.ofNat n)), (show _ = (0 : Nat) from wfa.2.2.2.2.2.2.2.2.2.2.2.2.2.1 0), getL, takeL, dropL, TK.isAgg, reduceIte])
    all_goals first
      | exact Nat.zero_le _
      | exact (by (try simp only [wf, wfa, nc, nc', Int.toNat_natCast, bsz, ByteArray.size_append, List.length_cons, List.length_nil] at *); (try simp (disch := omega) only [w64, w32, wu8] at *); first | done | omega)
      | (obtain ⟨l2, hl2⟩ : ∃ l2, l2 = l1 + z := ⟨_, rfl⟩
         obtain ⟨U2, hU2⟩ : ∃ U2, U2 = catN U1 l1 X := ⟨_, rfl⟩
         have hn2 : ∀ v, v ∈ numsL U2 l2 ↔ v ∈ numsL U1 l1 ∨ ∃ j, j < N i ∧ W i j = v := fun v => by
           rw [hl2, hU2, numsL_cat, List.mem_append, (VarsP.iff.1 hX).2, numsL_mem (N := W i)]
         have ha : ∀ x j, appF l1 (nuF U1) (nsF .i64 X) x j = nuF U2 x j := fun x j => by rw [hU2]; exact appF_nu U1 X l1 x j fun _ => rfl
         clear hU2
         refine hBk ⟨i + 1, l2, U2⟩ _ (by dsimp only; omega) ⟨by dsimp only; omega, by dsimp only [sumF]; omega, fun v => ?_⟩ ?_
         · dsimp only
           rw [hn2, i3]
           constructor
           · rintro ((h | ⟨i0, h1, h2⟩) | h)
             · exact .inl h
             · exact .inr ⟨i0, by omega, h2⟩
             · exact .inr ⟨i, Nat.lt_succ_self _, h⟩
           · rintro (h | ⟨i0, h1, h2⟩)
             · exact .inl (.inl h)
             · by_cases ei : i0 = i
               · subst ei; exact .inr h2
               · exact .inl (.inr ⟨i0, by omega, h2⟩)
         · (cbv; try simp only [wf, wfa, exD, exL, exT, exB, exA, leLs, leL_d, leL_undef, leL_nils, leA_nils, deq_refl, deq_int, deq_bool, deq_str, and_true, true_and, AObj.iter.injEq, nc, nc']; try simp (disch := omega) only [w64, w32, wu8])
           ((try simp only [wf, wfa, nc, nc', Int.toNat_natCast, bsz, ByteArray.size_append, List.length_cons, List.length_nil] at *); (try simp (disch := omega) only [w64, w32, wu8] at *))
           exact ⟨by omega, congrArg (fun q => A.ref 1 0 q 1) hl2, hl2.symm, Nat.le_refl _, Nat.zero_le _, fun x j _ _ => .of_eq (ha x j)⟩)
  · obtain rfl : i = k := (by (try simp only [wf, wfa, nc, nc', Int.toNat_natCast, bsz, ByteArray.size_append, List.length_cons, List.length_nil] at *); (try simp (disch := omega) only [w64, w32, wu8] at *); first | done | omega)
    (refine Later.mk ?_; cbv; try simp only [wp, (show ∀ n : Nat, _ = n from fun n => wf.2.2.2.2.2.2.2.2.2.2.2.2.2.1 (Int.ofNat n)), (show _ = (0 : Nat) from wf.2.2.2.2.2.2.2.2.2.2.2.2.2.1 0), wpa, (show ∀ n : Nat, _ = n from fun n => wfa.2.2.2.2.2.2.2.2.2.2.2.2.2.1 (Int.ofNat n)), (show _ = (0 : Nat) from wfa.2.2.2.2.2.2.2.2.2.2.2.2.2.1 0), getL, takeL, dropL, TK.isAgg, reduceIte])
    exact hR _ _ ⟨l1, U1, _, _, fun i hi => rfl, ⟨i2, i3⟩, rfl, rfl⟩
theorem hols1 (l : Nat) (U : Nat → Int) (op n : Int) (s : ByteArray) (k : Nat) (C : Nat → Int) (N : Nat → Nat) (W Q : Nat → Nat → Int) (m : Nat) (G : Nat → Nat → D) (hl : l + 1 ≤ 2 ^ 30) :
    VCalls (P ()) 57 [tml op n s k C N W Q m G, .ptr 0 0] (hpC l U) (fun r H => ∃ l' U', (l' ≤ l + 1 ∧ ∀ v, v ∈ numsL U' l' ↔ v ∈ numsL U l ∨ (op = 29 ∧ n = v)) ∧ r = .tup [] ∧ H = hpC l' U') := by
  refine VCalls.coll ?_ rfl rfl
  refine VCalls_of_Wl (Tf := fun {_} _ => fzT [2] (T ())) (fun {_} => tabOk.frz [2]) [] 400 Tryz.func57 rfl (fun {_} => by kernel_rfl) (Nat.le_of_ble_eq_true rfl) @fun ⟨_, _, _, _, _, _, _, _, _, _, _, _, _, _, _, _, _, _, _, _, _, _, _, _, _, _, _, _, _, _, _, _, _, _, _, _, _, _, wp, wf⟩ nH R hnH hR => ?_
  subst hnH
  cbv
  try simp only [wp, (show ∀ n : Nat, _ = n from fun n => wf.2.2.2.2.2.2.2.2.2.2.2.2.2.1 (Int.ofNat n)), getL, takeL, dropL, TK.isAgg, reduceIte]
  repeat' first | (with_reducible refine And.intro ?_ ?_) | intro c9 | trivial | (refine Later.mk ?_; cbv; try simp only [wp, (show ∀ n : Nat, _ = n from fun n => wf.2.2.2.2.2.2.2.2.2.2.2.2.2.1 (Int.ofNat n)), (show _ = (0 : Nat) from wf.2.2.2.2.2.2.2.2.2.2.2.2.2.1 0), getL, takeL, dropL, TK.isAgg, reduceIte])
  all_goals first
    | exact Nat.zero_le _
    | (clear hR; exact (by (try simp only [wf, nc, nc', Int.toNat_natCast, bsz, ByteArray.size_append, List.length_cons, List.length_nil] at *); (try simp (disch := omega) only [w64, w32, wu8] at *); first | done | omega))
    | skip
  · refine hR _ _ ⟨l + 1, catN U l fun _ => n, appF l (nuF U) (rowF 1 [.int .i64 n]), _, fun i hi => ?_, ⟨Nat.le_refl _, fun v => ?_⟩, rfl, by ((try simp only [wf, nc, nc', Int.toNat_natCast, bsz, ByteArray.size_append, List.length_cons, List.length_nil] at *); (try simp (disch := omega) only [w64, w32, wu8] at *)); rfl⟩
    · exact app_row2 (g' := nuF (catN U l fun _ => n)) (fun i j h _ => by unfold nuF catN; rw [if_pos h]) (fun j hj => by
        obtain rfl : j = 0 := by omega
        show D.int .i64 n = .int .i64 (catN U l (fun _ => n) l)
        unfold catN; rw [if_neg (Nat.lt_irrefl _)]) i 0 hi (by decide)
    · rw [numsL_cat U (fun _ => n) l 1, List.mem_append]
      simp [numsL, c9, eq_comm]
  · exact hR _ _ ⟨l, U, _, _, fun i hi => rfl, ⟨Nat.le_succ _, fun v => ⟨fun h => .inl h, fun h => h.elim (fun h => h) fun h => absurd h.1 (by clear hR; exact (by (try simp only [wf, nc, nc', Int.toNat_natCast, bsz, ByteArray.size_append, List.length_cons, List.length_nil] at *); (try simp (disch := omega) only [w64, w32, wu8] at *); first | done | omega))⟩⟩, rfl, rfl⟩
end Go.VM
