/- Part of the proof: TT25, TA6, TT11, TT12, TT13. -/
import Derived.Test.YtfbecfnagidioaaDoorGX18
import Derived.Test.YtfbecfnagidioaaDoorGX15
import Derived.Test.YtfbecfnagidioaaDoorGX12
import Derived.Test.YtfbecfnagidioaaDoorGX14
namespace Go.VM
open Go.Proofs Go
set_option maxRecDepth 100000
set_option linter.unusedVariables false
set_option linter.unusedSimpArgs false
theorem cloneK (m : Nat) (g : Nat → Nat → D) (hm : m < 2 ^ 30) : VCalls (P ()) 88 [.d (.sl m 5 g)] [] (fun r H' => (m = 0 ∧ r = .nils ∧ H' = []) ∨ ∃ n' g', n' = m ∧ (∀ i j, i < m → g' i j = g i j) ∧ r = .ref 0 0 n' 5 ∧ H' = [.arr n' 5 g' 0]) := by
  refine VCalls_of_Wl (Tf := fun {_} _ => fzT [] (T ())) (fun {_} => tabOk.frz []) [] 400 Tryd.func88 rfl (fun {_} => by kernel_rfl) (Nat.le_of_ble_eq_true rfl) @fun ⟨_, _, _, _, _, _, _, _, _, _, _, _, _, _, _, _, _, _, _, _, _, _, _, _, _, _, _, _, _, _, _, _, _, _, _, _, _, _, wp, wf⟩ nH R hnH hR => ?_
  subst hnH
  cbv
  try simp only [wp, (show ∀ n : Nat, _ = n from fun n => wf.2.2.2.2.2.2.2.2.2.2.2.2.2.1 (Int.ofNat n)), getL, takeL, dropL, TK.isAgg, reduceIte]
  repeat' first | (with_reducible refine And.intro ?_ ?_) | intro c9 | trivial | (refine Later.mk ?_; cbv; try simp only [wp, (show ∀ n : Nat, _ = n from fun n => wf.2.2.2.2.2.2.2.2.2.2.2.2.2.1 (Int.ofNat n)), (show _ = (0 : Nat) from wf.2.2.2.2.2.2.2.2.2.2.2.2.2.1 0), getL, takeL, dropL, TK.isAgg, reduceIte])
  all_goals first
    | exact (by (try simp only [wf, nc, nc', Int.toNat_natCast, bsz, ByteArray.size_append, List.length_cons, List.length_nil] at *); (try simp (disch := omega) only [w64, w32, wu8] at *); first | done | omega)
    | exact hR _ _ (.inl ⟨(by (try simp only [wf, nc, nc', Int.toNat_natCast, bsz, ByteArray.size_append, List.length_cons, List.length_nil] at *); (try simp (disch := omega) only [w64, w32, wu8] at *); first | done | omega), rfl, rfl⟩)
    | (refine hR _ _ (.inr ⟨_, _, ?_, ?_, rfl, rfl⟩)
       · ((try simp only [wf, nc, nc', Int.toNat_natCast, bsz, ByteArray.size_append, List.length_cons, List.length_nil] at *); (try simp (disch := omega) only [w64, w32, wu8] at *))
         omega
       · intro i j hi
         ((try simp only [wf, nc, nc', Int.toNat_natCast, bsz, ByteArray.size_append, List.length_cons, List.length_nil] at *); (try simp (disch := omega) only [w64, w32, wu8] at *))
         simp [appF])
theorem cloneK' (m : Nat) (g : Nat → Nat → D) (hm : m < 2 ^ 30) {H : AHeap} {R : A → AHeap → Prop} (h0 : m = 0 → R .nils H)
    (hR : ∀ n' g', n' = m → (∀ i j, i < m → g' i j = g i j) → R (.ref H.length 0 n' 5) (H ++ [.arr n' 5 g' 0])) : CallW P 88 [.d (.sl m 5 g)] H R := by
  refine CallW.of (VCalls.fresh2 (ds := [.sl m 5 g]) (cloneK m g hm) H (R := R) ?_) fun _ _ h => h
  rintro r H' (⟨rfl, rfl, rfl⟩ | ⟨n', g', h1, h2, rfl, rfl⟩)
  · exact ⟨.nils, fun i x hx => by simp at hx, trivial, by simpa [ren] using h0 rfl⟩
  · refine ⟨.ref _ _ _ _ (by simp), fun i x hx => ?_, ⟨⟨g', 0, rfl, Nat.le_refl _, Nat.zero_le _, fun i j _ _ => .refl _⟩, trivial⟩, hR n' g' h1 h2⟩
    have hi := (List.getElem?_eq_some_iff.1 hx).1
    obtain rfl : i = 0 := by simpa using hi
    simp at hx
    subst hx
    trivial
/-- what Put returns -/
def PutR (U : Nat → Int) (t s : Tm) (p : Nat) (r : A) : Prop := (∃ x, putT p U t s = some x ∧ r = .tup [tm x, .d (.int .i64 0)]) ∨ (putT p U t s = none ∧ r = .tup [tm Tm.leaf, .d (.int .i64 30)])
theorem nodes_len (x : Tm) {b : Nat} (h : nodesT x ≤ b) : lenT x ≤ b := by
  cases x with | mk op n s k C N W Q m ok L =>
  unfold nodesT at h
  have := sumF_ge (f := fun i => if h : i < m then nodesT (L ⟨i, h⟩) else 1) (fun i => by split; exact nodesT_pos _; exact Nat.le_refl _) m
  rw [sumF_congr (g := fun i => if h : i < m then nodesT (L ⟨i, h⟩) else 0) fun i hi => by rw [dif_pos hi, dif_pos hi]] at this
  show m ≤ b
  omega
theorem nd_set {t : Tm} {op n : Int} {s : ByteArray} {k : Nat} {C : Nat → Int} {N : Nat → Nat} {W Q : Nat → Nat → Int} {m : Nat} {G : Nat → Nat → D} (h : NdOk t op n s k C N W Q m G) (i : Int) (x : Tm) :
    ∃ G', tm (setK t i x) = tml op n s k C N W Q m G' ∧ ∀ j c, j < m → G' j c = if (j : Int) = i then tmD x c else G j c := by
  obtain ⟨h, -, -, -⟩ := h
  cases t with | mk op' n' s' k' C' N' W' Q' m' ok' L =>
  unfold tm at h
  injection h with h
  simp only [tmD, List.cons.injEq, A.d.injEq, D.int.injEq, D.str.injEq, D.sl.injEq, true_and, and_true] at h
  obtain ⟨rfl, rfl, rfl, ⟨rfl, hl⟩, rfl, hG⟩ := h
  refine ⟨fun j c => if h : j < m' then tmD (if (j : Int) = i then x else L ⟨j, h⟩) c else .nilp, ?_, fun j c hj => ?_⟩
  · unfold tm setK
    simp only [tmD, hl]
  · simp only [dif_pos hj, ← hG]
    split <;> rfl
theorem sumF_set {f g : Nat → Nat} {q b : Nat} : ∀ {m : Nat}, q < m → (∀ j, j < m → j ≠ q → f j = g j) → f q ≤ g q + b → sumF f m ≤ sumF g m + b
  | 0, hq, _, _ => absurd hq (Nat.not_lt_zero _)
  | m + 1, hq, h1, h2 => by
    simp only [sumF]
    by_cases e : m = q
    · subst e
      have : sumF f m = sumF g m := sumF_congr fun j hj => h1 j (by omega) (by omega)
      omega
    · have := sumF_set (m := m) (by omega) (fun j hj => h1 j (by omega)) h2
      have := h1 m (by omega) e
      omega
theorem set_size (t : Tm) (i : Int) (x : Tm) {b : Nat} (h0 : 0 ≤ i ∧ i < lenT t) (h : nodesT x ≤ nodesT (kidT t i) + b) : nodesT (setK t i x) ≤ nodesT t + b := by
  cases t with | mk op n s k C N W Q m ok L =>
  have h0 : 0 ≤ i ∧ i < m := h0
  have e : kidT (.mk op n s k C N W Q m ok L) i = L ⟨i.toNat, by omega⟩ := dif_pos h0
  rw [e] at h
  unfold setK nodesT
  have := sumF_set (m := m) (b := b) (f := fun j => if h : j < m then nodesT (if ((⟨j, h⟩ : Fin m).1 : Int) = i then x else L ⟨j, h⟩) else 0) (g := fun j => if h : j < m then nodesT (L ⟨j, h⟩) else 0) (q := i.toNat) (by omega) (fun j hj hne => by
    simp only [dif_pos hj, if_neg (show ¬ (j : Int) = i by omega)]) (by
    simp only [dif_pos (show i.toNat < m by omega), if_pos (show (i.toNat : Int) = i by omega)]
    exact h)
  dsimp only at this ⊢
  omega
theorem put_size : ∀ p U t s z, putT p U t s = some z → nodesT z ≤ nodesT t + nodesT s
  | 0, _, t, s, z, h => by
    simp only [putT, Option.some.injEq] at h
    subst h; omega
  | p + 1, U, t, s, z, h => by
    simp only [putT] at h
    split at h
    · rename_i hu
      obtain ⟨y, h1, rfl⟩ := Option.map_eq_some_iff.1 h
      exact set_size t _ y hu (put_size p _ _ s y h1)
    · cases h
def PutC (s0 : Tm) (p : Nat) : Prop := ∀ (g : Nat → Nat → D) (U : Nat → Int) (t : Tm), (∀ i, i < p → g i 0 = .int .i64 (U i)) → nodesT t ≤ 250000 → VFun (P ()) 62 [tm t, .d (.sl p 1 g), tm s0] (PutR U t s0 p)
theorem put0 (s0 : Tm) : PutC s0 0 := by
  intro g U t _ ht
  obtain ⟨f0, hf0⟩ : ∃ f0, f0 = tmD s0 := ⟨_, rfl⟩
  have es : tm s0 = .agg [.d (f0 0), .d (f0 1), .d (f0 2), .d (f0 3), .d (f0 4)] := by rw [hf0]; rfl
  clear hf0
  obtain ⟨op, n, s, k, C, N, W, Q, m, G, e, h1, h2, h3⟩ := nd_of t
  unfold PutR
  rw [e, putT, es]
  refine vfunL (Tf := fun {_} _ => fzT [5] (T ())) (fun {_} => tabOk.frz [5]) [] 400 Tryd.func62 rfl (fun {_} => by kernel_rfl) rfl (Nat.le_of_ble_eq_true rfl) @fun ⟨_, _, _, _, _, _, _, _, _, _, _, _, _, _, _, _, _, _, _, _, _, _, _, _, _, _, _, _, _, _, _, _, _, _, _, _, _, _, wp, wf⟩ R hR => ?_
  cbv
  try simp only [wp, (show ∀ n : Nat, _ = n from fun n => wf.2.2.2.2.2.2.2.2.2.2.2.2.2.1 (Int.ofNat n)), getL, takeL, dropL, TK.isAgg, reduceIte]
  repeat' first | (with_reducible refine And.intro ?_ ?_) | intro c9 | trivial | (refine Later.mk ?_; cbv; try simp only [wp, (show ∀ n : Nat, _ = n from fun n => wf.2.2.2.2.2.2.2.2.2.2.2.2.2.1 (Int.ofNat n)), (show _ = (0 : Nat) from wf.2.2.2.2.2.2.2.2.2.2.2.2.2.1 0), getL, takeL, dropL, TK.isAgg, reduceIte])
  all_goals first
    | exact absurd rfl c9
    | exact hR _ _ _ (.tup2 (.same5 _ _ _ _ _) (.d _)) (.inl ⟨s0, rfl, by rw [es]⟩)
    | (clear hR; exfalso; ((try simp only [wf, nc, nc', Int.toNat_natCast, bsz, ByteArray.size_append, List.length_cons, List.length_nil] at *); (try simp (disch := omega) only [w64, w32, wu8] at *)); omega)
set_option maxHeartbeats 4000000 in
theorem putS (s0 : Tm) (p : Nat) (hp : p < 400) (ih : PutC s0 p) : PutC s0 (p + 1) := by
  intro g U t hg ht
  obtain ⟨f0, hf0⟩ : ∃ f0, f0 = tmD s0 := ⟨_, rfl⟩
  have es : tm s0 = .agg [.d (f0 0), .d (f0 1), .d (f0 2), .d (f0 3), .d (f0 4)] := by rw [hf0]; rfl
  clear hf0
  obtain ⟨g3, g4, el⟩ := tm_leaf
  obtain ⟨op, n, s, k, C, N, W, Q, m, G, e, h1, h2, h3⟩ := nd_of t
  have hml := nodes_len t ht
  rw [← h2] at hml
  have g0 := hg 0 (by omega)
  have ih' := fun (g : Nat → Nat → D) (hg' : ∀ i, i < p → g i 0 = .int .i64 (U (i + 1))) (hu : 0 ≤ U 0 ∧ U 0 < m) => ih g (fun i => U (i + 1)) (kidT t (U 0)) hg' (kid_small (by rw [← h2]; exact hu) ht)
  rw [e, es]
  refine vfunL (Tf := fun {_} _ => fzT [5] (T ())) (fun {_} => tabOk.frz [5]) [] 400 Tryd.func62 rfl (fun {_} => by kernel_rfl) rfl (Nat.le_of_ble_eq_true rfl) @fun ⟨_, _, _, _, _, _, _, _, _, _, _, _, _, _, _, _, _, _, _, _, _, _, _, _, _, _, _, _, _, _, _, _, _, _, _, _, _, _, wp, wf⟩ R hR => ?_
  cbv
  try simp only [wp, (show ∀ n : Nat, _ = n from fun n => wf.2.2.2.2.2.2.2.2.2.2.2.2.2.1 (Int.ofNat n)), getL, takeL, dropL, TK.isAgg, reduceIte]
  repeat' first | (with_reducible refine And.intro ?_ ?_) | intro c9 | trivial | (refine Later.mk ?_; cbv; try simp only [wp, (show ∀ n : Nat, _ = n from fun n => wf.2.2.2.2.2.2.2.2.2.2.2.2.2.1 (Int.ofNat n)), (show _ = (0 : Nat) from wf.2.2.2.2.2.2.2.2.2.2.2.2.2.1 0), getL, takeL, dropL, TK.isAgg, reduceIte]) | (rw [g0]; (cbv; try simp only [wp, (show ∀ n : Nat, _ = n from fun n => wf.2.2.2.2.2.2.2.2.2.2.2.2.2.1 (Int.ofNat n)), (show _ = (0 : Nat) from wf.2.2.2.2.2.2.2.2.2.2.2.2.2.1 0), getL, takeL, dropL, TK.isAgg, reduceIte]))
  all_goals first
    | exact hR _ _ _ (.tup2 (.z5 g3 g4 _ _ _) (.d _)) (.inr ⟨by rw [putT, if_neg (by rw [← h2]; clear hR; exact (by (try simp only [wf, nc, nc', Int.toNat_natCast, bsz, ByteArray.size_append, List.length_cons, List.length_nil] at *); (try simp (disch := omega) only [w64, w32, wu8] at *); first | done | omega))], by rw [el]; rfl⟩)
    | exact (by (try simp only [wf, nc, nc', Int.toNat_natCast, bsz, ByteArray.size_append, List.length_cons, List.length_nil] at *); (try simp (disch := omega) only [w64, w32, wu8] at *); first | done | omega)
    | skip
  all_goals
    have hu : 0 ≤ U 0 ∧ U 0 < m := by clear hR; exact (by (try simp only [wf, nc, nc', Int.toNat_natCast, bsz, ByteArray.size_append, List.length_cons, List.length_nil] at *); (try simp (disch := omega) only [w64, w32, wu8] at *); first | done | omega)
    have hst : putT (p + 1) U t s0 = (putT p (fun i => U (i + 1)) (kidT t (U 0)) s0).map (setK t (U 0)) := by rw [putT, if_pos (by rw [← h2]; exact hu)]
    have hq := ih' (fun i j => g (1 + i) j) (fun i hi => by rw [hg (1 + i) (by omega), Nat.add_comm]) hu
    rw [h3 _ hu.1 hu.2, es] at hq
    refine CallW.args (args' := [kid G (U 0).toNat, .d (.sl p 1 (fun i j => g (1 + i) j)), .agg [.d (f0 0), .d (f0 1), .d (f0 2), .d (f0 3), .d (f0 4)]]) (fun {_ _} => ⟨⟨_, rfl, .of_eq (by clear hR; ((try simp only [wf, nc, nc', Int.toNat_natCast, bsz, ByteArray.size_append, List.length_cons, List.length_nil] at *); (try simp (disch := omega) only [w64, w32, wu8] at *))), .of_eq (by clear hR; ((try simp only [wf, nc, nc', Int.toNat_natCast, bsz, ByteArray.size_append, List.length_cons, List.length_nil] at *); (try simp (disch := omega) only [w64, w32, wu8] at *))), .of_eq (by clear hR; ((try simp only [wf, nc, nc', Int.toNat_natCast, bsz, ByteArray.size_append, List.length_cons, List.length_nil] at *); (try simp (disch := omega) only [w64, w32, wu8] at *))), .of_eq (by clear hR; ((try simp only [wf, nc, nc', Int.toNat_natCast, bsz, ByteArray.size_append, List.length_cons, List.length_nil] at *); (try simp (disch := omega) only [w64, w32, wu8] at *))), .of_eq (by clear hR; ((try simp only [wf, nc, nc', Int.toNat_natCast, bsz, ByteArray.size_append, List.length_cons, List.length_nil] at *); (try simp (disch := omega) only [w64, w32, wu8] at *))), trivial⟩, .of_eq (by clear hR; ((try simp only [wf, nc, nc', Int.toNat_natCast, bsz, ByteArray.size_append, List.length_cons, List.length_nil] at *); (try simp (disch := omega) only [w64, w32, wu8] at *)); rfl), ⟨_, rfl, .refl _, .refl _, .refl _, .refl _, .refl _, trivial⟩, trivial⟩) ?_
    refine hq.call ?_
    rintro _ (⟨y, hy, rfl⟩ | ⟨hy, rfl⟩)
  all_goals clear hq ih' ih
  all_goals first
    | (obtain ⟨f1, hf1⟩ : ∃ f1, f1 = tmD y := ⟨_, rfl⟩
       have e1 : tm y = .agg [.d (f1 0), .d (f1 1), .d (f1 2), .d (f1 3), .d (f1 4)] := by rw [hf1]; rfl
       rw [e1]
       (cbv; try simp only [wp, (show ∀ n : Nat, _ = n from fun n => wf.2.2.2.2.2.2.2.2.2.2.2.2.2.1 (Int.ofNat n)), (show _ = (0 : Nat) from wf.2.2.2.2.2.2.2.2.2.2.2.2.2.1 0), getL, takeL, dropL, TK.isAgg, reduceIte])
       repeat' first | (with_reducible refine And.intro ?_ ?_) | intro c9 | trivial | (refine Later.mk ?_; cbv; try simp only [wp, (show ∀ n : Nat, _ = n from fun n => wf.2.2.2.2.2.2.2.2.2.2.2.2.2.1 (Int.ofNat n)), (show _ = (0 : Nat) from wf.2.2.2.2.2.2.2.2.2.2.2.2.2.1 0), getL, takeL, dropL, TK.isAgg, reduceIte]))
    | (rw [el]
       (cbv; try simp only [wp, (show ∀ n : Nat, _ = n from fun n => wf.2.2.2.2.2.2.2.2.2.2.2.2.2.1 (Int.ofNat n)), (show _ = (0 : Nat) from wf.2.2.2.2.2.2.2.2.2.2.2.2.2.1 0), getL, takeL, dropL, TK.isAgg, reduceIte])
       repeat' first | (with_reducible refine And.intro ?_ ?_) | intro c9 | trivial | (refine Later.mk ?_; cbv; try simp only [wp, (show ∀ n : Nat, _ = n from fun n => wf.2.2.2.2.2.2.2.2.2.2.2.2.2.1 (Int.ofNat n)), (show _ = (0 : Nat) from wf.2.2.2.2.2.2.2.2.2.2.2.2.2.1 0), getL, takeL, dropL, TK.isAgg, reduceIte]))
  all_goals first
    | exact hR _ _ _ (.tup2 (.z5 g3 g4 _ _ _) (.d _)) (.inr ⟨by rw [hst, hy]; rfl, by rw [el]; rfl⟩)
    | exact (by (try simp only [wf, nc, nc', Int.toNat_natCast, bsz, ByteArray.size_append, List.length_cons, List.length_nil] at *); (try simp (disch := omega) only [w64, w32, wu8] at *); first | done | omega)
    | skip
  all_goals
    have m0 : m ≠ 0 := (by
      intro h
      have h7 := hu.2
      clear hR
      first | omega | (((try simp only [wf, nc, nc', Int.toNat_natCast, bsz, ByteArray.size_append, List.length_cons, List.length_nil] at *); (try simp (disch := omega) only [w64, w32, wu8] at *)); omega) | (rw [h] at h7; have h8 : U 0 < 0 := h7; have h9 := hu.1; omega))
    obtain ⟨G2, q1, q2⟩ := nd_set ⟨e, h1, h2, h3⟩ (U 0) y
    refine cloneK' m G (by omega) (fun h => absurd h m0) fun n' g' hn hg' => ?_
    subst hn
    (cbv; try simp only [wp, (show ∀ n : Nat, _ = n from fun n => wf.2.2.2.2.2.2.2.2.2.2.2.2.2.1 (Int.ofNat n)), (show _ = (0 : Nat) from wf.2.2.2.2.2.2.2.2.2.2.2.2.2.1 0), getL, takeL, dropL, TK.isAgg, reduceIte])
    repeat' first | (with_reducible refine And.intro ?_ ?_) | intro c9 | trivial | (refine Later.mk ?_; cbv; try simp only [wp, (show ∀ n : Nat, _ = n from fun n => wf.2.2.2.2.2.2.2.2.2.2.2.2.2.1 (Int.ofNat n)), (show _ = (0 : Nat) from wf.2.2.2.2.2.2.2.2.2.2.2.2.2.1 0), getL, takeL, dropL, TK.isAgg, reduceIte])
  all_goals first
    | exact (by (try simp only [wf, nc, nc', Int.toNat_natCast, bsz, ByteArray.size_append, List.length_cons, List.length_nil] at *); (try simp (disch := omega) only [w64, w32, wu8] at *); first | done | omega)
    | (refine hR _ _ (.tup [tml op n s k C N W Q n' G2, .d (.int .i64 0)]) (.tup2 (.agg _ _ rfl (frzs_cons (.d _) (frzs_cons (.d _) (frzs_cons (.d _) (frzs_cons (.d _) (frzs_cons (.deq _ _ _ (.ref0 _ _ _ _ _ _ rfl rfl) (Deq.sl _ _ _ _ ?_)) (frzs_nil _))))))) (.d _)) (.inl ⟨setK t (U 0) y, by rw [hst, hy]; rfl, by rw [q1]⟩)
       intro i j hi hj
       rw [q2 i j hi, ← hf1]
       clear hR
       ((try simp only [wf, nc, nc', Int.toNat_natCast, bsz, ByteArray.size_append, List.length_cons, List.length_nil] at *); (try simp (disch := omega) only [w64, w32, wu8] at *))
       have h7 := hu.1
       unfold updF
       by_cases ei : i = (U 0).toNat
       · rw [if_pos (show (i : Int) = U 0 by omega), ← ei]
         match j, hj with
         | 0, _ | 1, _ | 2, _ | 3, _ | 4, _ => exact .of_eq (by simp)
       · rw [if_neg (show ¬ (i : Int) = U 0 by omega), if_neg (fun h => ei h.1), if_neg (fun h => ei h.1), if_neg (fun h => ei h.1), if_neg (fun h => ei h.1), if_neg (fun h => ei h.1), hg' i j hi]
         exact .refl _)
theorem putAll (s0 : Tm) : ∀ p, p ≤ 400 → PutC s0 p
  | 0, _ => put0 s0
  | p + 1, h => putS s0 p (by omega) (putAll s0 p (by omega))
theorem PutT (t s0 : Tm) (p : Nat) (U : Nat → Int) (hp : p ≤ 400) (ht : nodesT t ≤ 1000) (hs : nodesT s0 ≤ 1000) : VFun (P ()) 39 [tm t, .d (.sl p 1 (isF U)), tm s0] (PutR U t s0 p) := by
  have hq := putAll s0 p hp (isF U) U t (fun _ _ => rfl) (by omega)
  obtain ⟨f, hf⟩ : ∃ f, f = tmD t := ⟨_, rfl⟩
  have e : tm t = .agg [.d (f 0), .d (f 1), .d (f 2), .d (f 3), .d (f 4)] := by rw [hf]; rfl
  obtain ⟨f0, hf0⟩ : ∃ f0, f0 = tmD s0 := ⟨_, rfl⟩
  have es : tm s0 = .agg [.d (f0 0), .d (f0 1), .d (f0 2), .d (f0 3), .d (f0 4)] := by rw [hf0]; rfl
  clear hf hf0
  obtain ⟨g3, g4, el⟩ := tm_leaf
  rw [e, es] at hq ⊢
  refine vfunL (Tf := fun {_} _ => fzT [3, 5] (T ())) (fun {_} => tabOk.frz [3, 5]) [] 400 Tryd.func39 rfl (fun {_} => by kernel_rfl) rfl (Nat.le_of_ble_eq_true rfl) @fun ⟨_, _, _, _, _, _, _, _, _, _, _, _, _, _, _, _, _, _, _, _, _, _, _, _, _, _, _, _, _, _, _, _, _, _, _, _, _, _, wp, wf⟩ R hR => ?_
  cbv
  try simp only [wp, (show ∀ n : Nat, _ = n from fun n => wf.2.2.2.2.2.2.2.2.2.2.2.2.2.1 (Int.ofNat n)), getL, takeL, dropL, TK.isAgg, reduceIte]
  repeat' first | (with_reducible refine And.intro ?_ ?_) | intro c9 | trivial | (refine Later.mk ?_; cbv; try simp only [wp, (show ∀ n : Nat, _ = n from fun n => wf.2.2.2.2.2.2.2.2.2.2.2.2.2.1 (Int.ofNat n)), (show _ = (0 : Nat) from wf.2.2.2.2.2.2.2.2.2.2.2.2.2.1 0), getL, takeL, dropL, TK.isAgg, reduceIte])
  refine hq.call ?_
  rintro _ (⟨y, hy, rfl⟩ | ⟨hy, rfl⟩)
  · have hsz := put_size _ _ _ _ _ hy
    have hc := cloneT y (by omega)
    obtain ⟨f1, hf1⟩ : ∃ f1, f1 = tmD y := ⟨_, rfl⟩
    have e1 : tm y = .agg [.d (f1 0), .d (f1 1), .d (f1 2), .d (f1 3), .d (f1 4)] := by rw [hf1]; rfl
    clear hf1
    rw [e1] at hc ⊢
    (cbv; try simp only [wp, (show ∀ n : Nat, _ = n from fun n => wf.2.2.2.2.2.2.2.2.2.2.2.2.2.1 (Int.ofNat n)), (show _ = (0 : Nat) from wf.2.2.2.2.2.2.2.2.2.2.2.2.2.1 0), getL, takeL, dropL, TK.isAgg, reduceIte])
    repeat' first | (with_reducible refine And.intro ?_ ?_) | intro c9 | trivial | (refine Later.mk ?_; cbv; try simp only [wp, (show ∀ n : Nat, _ = n from fun n => wf.2.2.2.2.2.2.2.2.2.2.2.2.2.1 (Int.ofNat n)), (show _ = (0 : Nat) from wf.2.2.2.2.2.2.2.2.2.2.2.2.2.1 0), getL, takeL, dropL, TK.isAgg, reduceIte])
    all_goals
      refine hc.call ?_
      rintro _ rfl
      (cbv; try simp only [wp, (show ∀ n : Nat, _ = n from fun n => wf.2.2.2.2.2.2.2.2.2.2.2.2.2.1 (Int.ofNat n)), (show _ = (0 : Nat) from wf.2.2.2.2.2.2.2.2.2.2.2.2.2.1 0), getL, takeL, dropL, TK.isAgg, reduceIte])
      repeat' first | (with_reducible refine And.intro ?_ ?_) | intro c9 | trivial | (refine Later.mk ?_; cbv; try simp only [wp, (show ∀ n : Nat, _ = n from fun n => wf.2.2.2.2.2.2.2.2.2.2.2.2.2.1 (Int.ofNat n)), (show _ = (0 : Nat) from wf.2.2.2.2.2.2.2.2.2.2.2.2.2.1 0), getL, takeL, dropL, TK.isAgg, reduceIte])
    all_goals exact hR _ _ _ (.tup2 (.same5 _ _ _ _ _) (.d _)) (.inl ⟨y, hy, by rw [e1]⟩)
  · rw [el]
    (cbv; try simp only [wp, (show ∀ n : Nat, _ = n from fun n => wf.2.2.2.2.2.2.2.2.2.2.2.2.2.1 (Int.ofNat n)), (show _ = (0 : Nat) from wf.2.2.2.2.2.2.2.2.2.2.2.2.2.1 0), getL, takeL, dropL, TK.isAgg, reduceIte])
    repeat' first | (with_reducible refine And.intro ?_ ?_) | intro c9 | trivial | (refine Later.mk ?_; cbv; try simp only [wp, (show ∀ n : Nat, _ = n from fun n => wf.2.2.2.2.2.2.2.2.2.2.2.2.2.1 (Int.ofNat n)), (show _ = (0 : Nat) from wf.2.2.2.2.2.2.2.2.2.2.2.2.2.1 0), getL, takeL, dropL, TK.isAgg, reduceIte])
    all_goals exact hR _ _ _ (.tup2 (.z5 g3 g4 _ _ _) (.d _)) (.inr ⟨hy, by rw [el]; rfl⟩)
end Go.VM

namespace Go.VM
open Go.Proofs Go
set_option maxRecDepth 100000
set_option linter.unusedVariables false
set_option linter.unusedSimpArgs false
theorem at_size : ∀ p U t n x k b, atA p U t n = some (x, k) → nodesT t ≤ b → nodesT x ≤ b
  | 0, _, t, n, x, k, b, h, hb => by
    simp only [atA, Option.some.injEq, Prod.mk.injEq] at h
    rw [← h.1]; exact hb
  | p + 1, U, t, n, x, k, b, h, hb => by
    simp only [atA] at h
    split at h
    · rename_i hu
      exact at_size p _ _ _ x k b h (kid_small hu hb)
    · cases h
theorem tm_cols (t : Tm) : ∃ f : Nat → D, tm t = .agg [.d (f 0), .d (f 1), .d (f 2), .d (f 3), .d (f 4)] := ⟨tmD t, rfl⟩
set_option maxHeartbeats 4000000 in
theorem lawTermStands (t : Tm) (p : Nat) (U : Nat → Int) (s0 : Tm) (hp63 : p < 2 ^ 63) : VFun (P ()) 10 [tm t, .d (.sl p 1 (isF U)), tm s0] (fun r => r = .d (.bool true)) := by
  obtain ⟨f, e⟩ := tm_cols t
  obtain ⟨g, e'⟩ := tm_cols s0
  have hh := heavyV 2 (fun i j => if i = 0 then f j else g j) (fun i => if i = 0 then t else s0) (by decide) (fun i hi => by
    match i, hi with
    | 0, _ => exact e
    | 1, _ => exact e')
  have cA := fun hp h => AtT t p U hp h
  have cP := fun hp h h' => PutT t s0 p U hp h h'
  have q1 := fun h => EqTerm t h
  have q2 := fun h => EqTerm s0 h
  rw [e] at cA q1
  rw [e, e'] at cP
  rw [e'] at q2
  rw [e, e']
  refine vfunL (Tf := fun {_} _ => fzT [3, 5] (T ())) (fun {_} => tabOk.frz [3, 5]) [] 400 Tryd.func10 rfl (fun {_} => by kernel_rfl) rfl (Nat.le_of_ble_eq_true rfl) @fun ⟨_, _, _, _, _, _, _, _, _, _, _, _, _, _, _, _, _, _, _, _, _, _, _, _, _, _, _, _, _, _, _, _, _, _, _, _, _, _, wp, wf⟩ R hR => ?_
  cbv
  try simp only [wp, (show ∀ n : Nat, _ = n from fun n => wf.2.2.2.2.2.2.2.2.2.2.2.2.2.1 (Int.ofNat n)), getL, takeL, dropL, TK.isAgg, reduceIte]
  replace hR := fun H => hR _ H _ (.d (.bool true)) rfl
  (refine CallW.frz @fun ⟨_, _, _, _, _, _, _, _, _, _, _, _, _, _, _, _, _, _, _, _, _, _, _, _, _, _, _, _, _, _, _, _, _, _, _, _, _, _, wpz, wfz⟩ => ?_; cbv; try simp only [wpz, wp, (show ∀ n : Nat, _ = n from fun n => wfz.2.2.2.2.2.2.2.2.2.2.2.2.2.1 (Int.ofNat n)), getL, takeL, dropL, TK.isAgg, reduceIte])
  repeat' first | (with_reducible refine And.intro ?_ ?_) | intro c9 | trivial | (refine Later.mk ?_; cbv; try simp only [wp, (show ∀ n : Nat, _ = n from fun n => wf.2.2.2.2.2.2.2.2.2.2.2.2.2.1 (Int.ofNat n)), (show _ = (0 : Nat) from wf.2.2.2.2.2.2.2.2.2.2.2.2.2.1 0), getL, takeL, dropL, TK.isAgg, reduceIte])
  refine CallW.args (args' := [.d (.sl 2 5 fun i j => if i = 0 then f j else g j)]) (fun {_ _} => ⟨?_, trivial⟩) ?_
  · ((try simp only [wf, wfz, nc, nc', Int.toNat_natCast, bsz, ByteArray.size_append, List.length_cons, List.length_nil] at *); (try simp (disch := omega) only [w64, w32, wu8] at *))
    refine .sl _ _ _ _ fun i j hi hj => ?_
    match i, hi with
    | 0, _ =>
      match j, hj with
      | 0, _ | 1, _ | 2, _ | 3, _ | 4, _ => exact .refl _
    | 1, _ =>
      match j, hj with
      | 0, _ | 1, _ | 2, _ | 3, _ | 4, _ => exact .refl _
  refine hh.call ?_
  rintro _ ⟨x, hx, rfl⟩
  cases x <;> (cbv; try simp only [wp, (show ∀ n : Nat, _ = n from fun n => wf.2.2.2.2.2.2.2.2.2.2.2.2.2.1 (Int.ofNat n)), (show _ = (0 : Nat) from wf.2.2.2.2.2.2.2.2.2.2.2.2.2.1 0), getL, takeL, dropL, TK.isAgg, reduceIte])
  rotate_left
  · repeat' first | (with_reducible refine And.intro ?_ ?_) | intro c9 | trivial | (refine Later.mk ?_; cbv; try simp only [wp, (show ∀ n : Nat, _ = n from fun n => wf.2.2.2.2.2.2.2.2.2.2.2.2.2.1 (Int.ofNat n)), (show _ = (0 : Nat) from wf.2.2.2.2.2.2.2.2.2.2.2.2.2.1 0), getL, takeL, dropL, TK.isAgg, reduceIte])
    all_goals exact hR _
  have ha : Light t 400 := hx rfl 0 (by decide)
  have hb : Light s0 400 := hx rfl 1 (by decide)
  clear hx hh
  repeat' first | (with_reducible refine And.intro ?_ ?_) | intro c9 | trivial | (refine Later.mk ?_; cbv; try simp only [wp, (show ∀ n : Nat, _ = n from fun n => wf.2.2.2.2.2.2.2.2.2.2.2.2.2.1 (Int.ofNat n)), (show _ = (0 : Nat) from wf.2.2.2.2.2.2.2.2.2.2.2.2.2.1 0), getL, takeL, dropL, TK.isAgg, reduceIte])
  all_goals first | exact hR _ | skip
  have hp : p ≤ 400 := (by clear hR; exact (by (try simp only [wf, nc, nc', Int.toNat_natCast, bsz, ByteArray.size_append, List.length_cons, List.length_nil] at *); (try simp (disch := omega) only [w64, w32, wu8] at *); first | done | omega))
  have na := ha.1
  have nb := hb.1
  refine (cA hp (by omega)).call ?_
  clear c9
  obtain ⟨g3, g4, el⟩ := tm_leaf
  rintro _ (⟨x, n, hx, rfl⟩ | ⟨hx, rfl⟩)
  · have nx := at_size _ _ _ _ _ _ _ hx na
    have cx := PutT t x p U hp (by omega) (by omega)
    obtain ⟨fx, ex⟩ := tm_cols x
    rw [e, ex] at cx
    rw [ex]
    (cbv; try simp only [wp, (show ∀ n : Nat, _ = n from fun n => wf.2.2.2.2.2.2.2.2.2.2.2.2.2.1 (Int.ofNat n)), (show _ = (0 : Nat) from wf.2.2.2.2.2.2.2.2.2.2.2.2.2.1 0), getL, takeL, dropL, TK.isAgg, reduceIte])
    repeat' first | (with_reducible refine And.intro ?_ ?_) | intro c9 | trivial | (refine Later.mk ?_; cbv; try simp only [wp, (show ∀ n : Nat, _ = n from fun n => wf.2.2.2.2.2.2.2.2.2.2.2.2.2.1 (Int.ofNat n)), (show _ = (0 : Nat) from wf.2.2.2.2.2.2.2.2.2.2.2.2.2.1 0), getL, takeL, dropL, TK.isAgg, reduceIte])
    refine cx.call ?_
    rintro _ (⟨y, hy, rfl⟩ | ⟨hy, rfl⟩)
    rotate_left
    · have h0 := (put_none p U t 0 x).2 hy
      rw [h0] at hx; cases hx
    rw [put_at _ _ _ _ _ _ hx] at hy
    obtain rfl := Option.some.inj hy
    rw [e]
    (cbv; try simp only [wp, (show ∀ n : Nat, _ = n from fun n => wf.2.2.2.2.2.2.2.2.2.2.2.2.2.1 (Int.ofNat n)), (show _ = (0 : Nat) from wf.2.2.2.2.2.2.2.2.2.2.2.2.2.1 0), getL, takeL, dropL, TK.isAgg, reduceIte])
    repeat' first | (with_reducible refine And.intro ?_ ?_) | intro c9 | trivial | (refine Later.mk ?_; cbv; try simp only [wp, (show ∀ n : Nat, _ = n from fun n => wf.2.2.2.2.2.2.2.2.2.2.2.2.2.1 (Int.ofNat n)), (show _ = (0 : Nat) from wf.2.2.2.2.2.2.2.2.2.2.2.2.2.1 0), getL, takeL, dropL, TK.isAgg, reduceIte])
    refine (cP hp (by omega) (by omega)).call ?_
    rintro _ (⟨z, hz, rfl⟩ | ⟨hz, rfl⟩)
    rotate_left
    · have h0 := (put_none p U t 0 s0).2 hz
      rw [h0] at hx; cases hx
    have nz := put_size _ _ _ _ _ hz
    have cz := AtT z p U hp (by omega)
    obtain ⟨k, hk⟩ := at_put p U t s0 0 z hz
    obtain ⟨fz, ez⟩ := tm_cols z
    rw [ez] at cz
    rw [ez]
    (cbv; try simp only [wp, (show ∀ n : Nat, _ = n from fun n => wf.2.2.2.2.2.2.2.2.2.2.2.2.2.1 (Int.ofNat n)), (show _ = (0 : Nat) from wf.2.2.2.2.2.2.2.2.2.2.2.2.2.1 0), getL, takeL, dropL, TK.isAgg, reduceIte])
    repeat' first | (with_reducible refine And.intro ?_ ?_) | intro c9 | trivial | (refine Later.mk ?_; cbv; try simp only [wp, (show ∀ n : Nat, _ = n from fun n => wf.2.2.2.2.2.2.2.2.2.2.2.2.2.1 (Int.ofNat n)), (show _ = (0 : Nat) from wf.2.2.2.2.2.2.2.2.2.2.2.2.2.1 0), getL, takeL, dropL, TK.isAgg, reduceIte])
    refine cz.call ?_
    rintro _ (⟨w, nw, hw, rfl⟩ | ⟨hw, rfl⟩)
    rotate_left
    · rw [hk] at hw; cases hw
    rw [hk] at hw
    injection hw with hw
    injection hw with hw1 hw2
    subst hw1 hw2
    rw [e']
    (cbv; try simp only [wp, (show ∀ n : Nat, _ = n from fun n => wf.2.2.2.2.2.2.2.2.2.2.2.2.2.1 (Int.ofNat n)), (show _ = (0 : Nat) from wf.2.2.2.2.2.2.2.2.2.2.2.2.2.1 0), getL, takeL, dropL, TK.isAgg, reduceIte])
    repeat' first | (with_reducible refine And.intro ?_ ?_) | intro c9 | trivial | (refine Later.mk ?_; cbv; try simp only [wp, (show ∀ n : Nat, _ = n from fun n => wf.2.2.2.2.2.2.2.2.2.2.2.2.2.1 (Int.ofNat n)), (show _ = (0 : Nat) from wf.2.2.2.2.2.2.2.2.2.2.2.2.2.1 0), getL, takeL, dropL, TK.isAgg, reduceIte])
    refine (q1 (by unfold Small; omega)).call ?_
    rintro _ rfl
    (cbv; try simp only [wp, (show ∀ n : Nat, _ = n from fun n => wf.2.2.2.2.2.2.2.2.2.2.2.2.2.1 (Int.ofNat n)), (show _ = (0 : Nat) from wf.2.2.2.2.2.2.2.2.2.2.2.2.2.1 0), getL, takeL, dropL, TK.isAgg, reduceIte])
    repeat' first | (with_reducible refine And.intro ?_ ?_) | intro c9 | trivial | (refine Later.mk ?_; cbv; try simp only [wp, (show ∀ n : Nat, _ = n from fun n => wf.2.2.2.2.2.2.2.2.2.2.2.2.2.1 (Int.ofNat n)), (show _ = (0 : Nat) from wf.2.2.2.2.2.2.2.2.2.2.2.2.2.1 0), getL, takeL, dropL, TK.isAgg, reduceIte])
    refine (q2 (by unfold Small; omega)).call ?_
    rintro _ rfl
    (cbv; try simp only [wp, (show ∀ n : Nat, _ = n from fun n => wf.2.2.2.2.2.2.2.2.2.2.2.2.2.1 (Int.ofNat n)), (show _ = (0 : Nat) from wf.2.2.2.2.2.2.2.2.2.2.2.2.2.1 0), getL, takeL, dropL, TK.isAgg, reduceIte])
    repeat' first | (with_reducible refine And.intro ?_ ?_) | intro c9 | trivial | (refine Later.mk ?_; cbv; try simp only [wp, (show ∀ n : Nat, _ = n from fun n => wf.2.2.2.2.2.2.2.2.2.2.2.2.2.1 (Int.ofNat n)), (show _ = (0 : Nat) from wf.2.2.2.2.2.2.2.2.2.2.2.2.2.1 0), getL, takeL, dropL, TK.isAgg, reduceIte])
    refine awakeT.call ?_
    rintro _ rfl
    (cbv; try simp only [wp, (show ∀ n : Nat, _ = n from fun n => wf.2.2.2.2.2.2.2.2.2.2.2.2.2.1 (Int.ofNat n)), (show _ = (0 : Nat) from wf.2.2.2.2.2.2.2.2.2.2.2.2.2.1 0), getL, takeL, dropL, TK.isAgg, reduceIte])
    repeat' first | (with_reducible refine And.intro ?_ ?_) | intro c9 | trivial | (refine Later.mk ?_; cbv; try simp only [wp, (show ∀ n : Nat, _ = n from fun n => wf.2.2.2.2.2.2.2.2.2.2.2.2.2.1 (Int.ofNat n)), (show _ = (0 : Nat) from wf.2.2.2.2.2.2.2.2.2.2.2.2.2.1 0), getL, takeL, dropL, TK.isAgg, reduceIte])
    all_goals exact hR _
  · have cx := PutT t Tm.leaf p U hp (by omega) (by decide)
    rw [el, e] at cx
    rw [el]
    (cbv; try simp only [wp, (show ∀ n : Nat, _ = n from fun n => wf.2.2.2.2.2.2.2.2.2.2.2.2.2.1 (Int.ofNat n)), (show _ = (0 : Nat) from wf.2.2.2.2.2.2.2.2.2.2.2.2.2.1 0), getL, takeL, dropL, TK.isAgg, reduceIte])
    repeat' first | (with_reducible refine And.intro ?_ ?_) | intro c9 | trivial | (refine Later.mk ?_; cbv; try simp only [wp, (show ∀ n : Nat, _ = n from fun n => wf.2.2.2.2.2.2.2.2.2.2.2.2.2.1 (Int.ofNat n)), (show _ = (0 : Nat) from wf.2.2.2.2.2.2.2.2.2.2.2.2.2.1 0), getL, takeL, dropL, TK.isAgg, reduceIte])
    refine cx.call ?_
    rintro _ (⟨y, hy, rfl⟩ | ⟨hy, rfl⟩)
    · have h0 := (put_none p U t 0 Tm.leaf).1 hx
      rw [h0] at hy; cases hy
    rw [el]
    (cbv; try simp only [wp, (show ∀ n : Nat, _ = n from fun n => wf.2.2.2.2.2.2.2.2.2.2.2.2.2.1 (Int.ofNat n)), (show _ = (0 : Nat) from wf.2.2.2.2.2.2.2.2.2.2.2.2.2.1 0), getL, takeL, dropL, TK.isAgg, reduceIte])
    repeat' first | (with_reducible refine And.intro ?_ ?_) | intro c9 | trivial | (refine Later.mk ?_; cbv; try simp only [wp, (show ∀ n : Nat, _ = n from fun n => wf.2.2.2.2.2.2.2.2.2.2.2.2.2.1 (Int.ofNat n)), (show _ = (0 : Nat) from wf.2.2.2.2.2.2.2.2.2.2.2.2.2.1 0), getL, takeL, dropL, TK.isAgg, reduceIte])
    refine (cP hp (by omega) (by omega)).call ?_
    rintro _ (⟨z, hz, rfl⟩ | ⟨hz, rfl⟩)
    · have h0 := (put_none p U t 0 s0).1 hx
      rw [h0] at hz; cases hz
    rw [el]
    (cbv; try simp only [wp, (show ∀ n : Nat, _ = n from fun n => wf.2.2.2.2.2.2.2.2.2.2.2.2.2.1 (Int.ofNat n)), (show _ = (0 : Nat) from wf.2.2.2.2.2.2.2.2.2.2.2.2.2.1 0), getL, takeL, dropL, TK.isAgg, reduceIte])
    repeat' first | (with_reducible refine And.intro ?_ ?_) | intro c9 | trivial | (refine Later.mk ?_; cbv; try simp only [wp, (show ∀ n : Nat, _ = n from fun n => wf.2.2.2.2.2.2.2.2.2.2.2.2.2.1 (Int.ofNat n)), (show _ = (0 : Nat) from wf.2.2.2.2.2.2.2.2.2.2.2.2.2.1 0), getL, takeL, dropL, TK.isAgg, reduceIte])
    refine awakeT.call ?_
    rintro _ rfl
    (cbv; try simp only [wp, (show ∀ n : Nat, _ = n from fun n => wf.2.2.2.2.2.2.2.2.2.2.2.2.2.1 (Int.ofNat n)), (show _ = (0 : Nat) from wf.2.2.2.2.2.2.2.2.2.2.2.2.2.1 0), getL, takeL, dropL, TK.isAgg, reduceIte])
    repeat' first | (with_reducible refine And.intro ?_ ?_) | intro c9 | trivial | (refine Later.mk ?_; cbv; try simp only [wp, (show ∀ n : Nat, _ = n from fun n => wf.2.2.2.2.2.2.2.2.2.2.2.2.2.1 (Int.ofNat n)), (show _ = (0 : Nat) from wf.2.2.2.2.2.2.2.2.2.2.2.2.2.1 0), getL, takeL, dropL, TK.isAgg, reduceIte])
    all_goals exact hR _
end Go.VM

namespace Go.VM
open Go.Proofs Go
set_option maxRecDepth 100000
set_option linter.unusedVariables false
set_option linter.unusedSimpArgs false
/-- which parts are proofs -/
def PrfP (op n : Int) (i : Nat) : Prop := (op = 7 ∧ i = 1 ∧ n = 1) ∨ (op = 9 ∧ ((i = 2 ∧ ¬ bitF .and .i64 n 1 = 0) ∨ (i = 3 ∧ ¬ bitF .and .i64 n 2 = 0))) ∨ ((op = 17 ∨ op = 22) ∧ i = 1) ∨ (op = 21 ∧ i = 2) ∨ (op = 23 ∧ 2 ≤ i ∧ i ≤ 4) ∨ (op = 25 ∧ i = 3) ∨ (op = 20 ∧ (i = 4 ∨ i = 5))
theorem isProofT (op n : Int) (s : ByteArray) (k : Nat) (C : Nat → Int) (N : Nat → Nat) (W Q : Nat → Nat → Int) (m : Nat) (G : Nat → Nat → D) (i : Nat) (hm : m < 2 ^ 62) (hi : i < m) : VFun (P ()) 31 [tml op n s k C N W Q m G, .d (.int .i64 i)] (fun r => ∃ b : Bool, (b = true ↔ PrfP op n i) ∧ r = .d (.bool b)) := by
  refine vfunL (Tf := fun {_} _ => fzT [2] (T ())) (fun {_} => tabOk.frz [2]) [] 400 Tryd.func31 rfl (fun {_} => by kernel_rfl) rfl (Nat.le_of_ble_eq_true rfl) @fun ⟨_, _, _, _, _, _, _, _, _, _, _, _, _, _, _, _, _, _, _, _, _, _, _, _, _, _, _, _, _, _, _, _, _, _, _, _, _, _, wp, wf⟩ R hR => ?_
  cbv
  try simp only [wp, (show ∀ n : Nat, _ = n from fun n => wf.2.2.2.2.2.2.2.2.2.2.2.2.2.1 (Int.ofNat n)), getL, takeL, dropL, TK.isAgg, reduceIte]
  replace hR := fun b H h => hR _ H (.d (.bool b)) (.d _) ⟨b, h, rfl⟩
  repeat' first | (with_reducible refine And.intro ?_ ?_) | intro c9 | (refine Later.mk ?_; cbv; try simp only [wp, (show ∀ n : Nat, _ = n from fun n => wf.2.2.2.2.2.2.2.2.2.2.2.2.2.1 (Int.ofNat n)), (show _ = (0 : Nat) from wf.2.2.2.2.2.2.2.2.2.2.2.2.2.1 0), getL, takeL, dropL, TK.isAgg, reduceIte])
  all_goals first
    | exact hR true _ (iffT (by clear hR; ((try simp only [wf, nc, nc', Int.toNat_natCast, bsz, ByteArray.size_append, List.length_cons, List.length_nil] at *); (try simp (disch := omega) only [w64, w32, wu8] at *)); unfold PrfP; omega))
    | exact hR false _ (iffF (by clear hR; ((try simp only [wf, nc, nc', Int.toNat_natCast, bsz, ByteArray.size_append, List.length_cons, List.length_nil] at *); (try simp (disch := omega) only [w64, w32, wu8] at *)); unfold PrfP; omega))
theorem isProofR (op n : Int) (s : ByteArray) (k : Nat) (C : Nat → Int) (N : Nat → Nat) (W Q : Nat → Nat → Int) (m : Nat) (G : Nat → Nat → D) (i : Nat) (hm : m < 2 ^ 62) (hi : i < m) : VFun (P ()) 32 [tml op n s k C N W Q m G, .d (.int .i64 i)] (fun r => ∃ b : Bool, (b = true ↔ PrfP op n i) ∧ r = .d (.bool b)) := by
  refine vfunL (Tf := fun {_} _ => fzT [2] (T ())) (fun {_} => tabOk.frz [2]) [] 400 Tryd.func32 rfl (fun {_} => by kernel_rfl) rfl (Nat.le_of_ble_eq_true rfl) @fun ⟨_, _, _, _, _, _, _, _, _, _, _, _, _, _, _, _, _, _, _, _, _, _, _, _, _, _, _, _, _, _, _, _, _, _, _, _, _, _, wp, wf⟩ R hR => ?_
  cbv
  try simp only [wp, (show ∀ n : Nat, _ = n from fun n => wf.2.2.2.2.2.2.2.2.2.2.2.2.2.1 (Int.ofNat n)), getL, takeL, dropL, TK.isAgg, reduceIte]
  replace hR := fun b H h => hR _ H (.d (.bool b)) (.d _) ⟨b, h, rfl⟩
  repeat' first | (with_reducible refine And.intro ?_ ?_) | intro c9 | (refine Later.mk ?_; cbv; try simp only [wp, (show ∀ n : Nat, _ = n from fun n => wf.2.2.2.2.2.2.2.2.2.2.2.2.2.1 (Int.ofNat n)), (show _ = (0 : Nat) from wf.2.2.2.2.2.2.2.2.2.2.2.2.2.1 0), getL, takeL, dropL, TK.isAgg, reduceIte])
  all_goals first
    | exact hR true _ (iffT (by clear hR; ((try simp only [wf, nc, nc', Int.toNat_natCast, bsz, ByteArray.size_append, List.length_cons, List.length_nil] at *); (try simp (disch := omega) only [w64, w32, wu8] at *)); unfold PrfP; omega))
    | exact hR false _ (iffF (by clear hR; ((try simp only [wf, nc, nc', Int.toNat_natCast, bsz, ByteArray.size_append, List.length_cons, List.length_nil] at *); (try simp (disch := omega) only [w64, w32, wu8] at *)); unfold PrfP; omega))
/-- two levels are the same for every assignment, or, if one is not valid, field by field -/
def SameLv (c : Int) (n : Nat) (V P0 : Nat → Int) (c' : Int) (n' : Nat) (V' P' : Nat → Int) : Prop :=
  (ValidP c n V P0 ∧ ValidP c' n' V' P' ∧ LeqP c n V P0 c' n' V' P' ∧ LeqP c' n' V' P' c n V P0) ∨ (¬ (ValidP c n V P0 ∧ ValidP c' n' V' P') ∧ c = c' ∧ lst V P0 n = lst V' P' n')
theorem sameLevel (c c' : Int) (n n' : Nat) (V P0 V' P' : Nat → Int) (hn : n < 2 ^ 61) (hn' : n' < 2 ^ 61) : VFun (P ()) 78 [lv c n V P0, lv c' n' V' P'] (fun r => ∃ b : Bool, (b = true ↔ SameLv c n V P0 c' n' V' P') ∧ r = .d (.bool b)) := by
  refine vfunO (Tf := fun {_} _ => fzT [2, 3] (T ())) (fun {_} => tabOk.frz [2, 3]) [] 400 Tryd.func78 rfl (fun {_} => by kernel_rfl) rfl (Nat.le_of_ble_eq_true rfl) @fun ⟨_, _, _, _, _, _, _, _, _, _, _, _, _, _, _, _, _, _, _, _, _, _, _, _, _, _, _, _, _, _, _, _, _, _, _, _, _, _, wp, wf⟩ R hR => ?_
  cbv
  try simp only [wp, (show ∀ n : Nat, _ = n from fun n => wf.2.2.2.2.2.2.2.2.2.2.2.2.2.1 (Int.ofNat n)), getL, takeL, dropL, TK.isAgg, reduceIte]
  replace hR := fun b H h => hR _ H (.d (.bool b)) (.d _) ⟨b, h, rfl⟩
  unfold SameLv at hR
  have eq : ¬ (ValidP c n V P0 ∧ ValidP c' n' V' P') → ∀ H, (¬ c = c' → R (.d (.bool false)) H) ∧ (c = c' → ∀ b : Bool, (b = true ↔ lst V P0 n = lst V' P' n') → R (.d (.bool b)) H) := fun hv H => ⟨fun hc => hR false _ (iffF fun h => h.elim (fun h => hv ⟨h.1, h.2.1⟩) fun h => hc h.2.1), fun hc b hb => hR b _ ⟨fun h => .inr ⟨hv, hc, hb.1 h⟩, fun h => h.elim (fun h => absurd ⟨h.1, h.2.1⟩ hv) fun h => hb.2 h.2.2⟩⟩
  refine (Valid c n V P0 (by omega)).call ?_
  rintro _ ⟨b, hb, rfl⟩
  rcases hb.dich with ⟨rfl, v⟩ | ⟨rfl, v⟩ <;> clear hb <;> (cbv; try simp only [wp, (show ∀ n : Nat, _ = n from fun n => wf.2.2.2.2.2.2.2.2.2.2.2.2.2.1 (Int.ofNat n)), (show _ = (0 : Nat) from wf.2.2.2.2.2.2.2.2.2.2.2.2.2.1 0), getL, takeL, dropL, TK.isAgg, reduceIte])
  · repeat' first | trivial | with_reducible refine And.intro ?_ ?_ | intro c9
    refine (Valid c' n' V' P' (by omega)).call ?_
    rintro _ ⟨b, hb, rfl⟩
    rcases hb.dich with ⟨rfl, v'⟩ | ⟨rfl, v'⟩ <;> clear hb <;> (cbv; try simp only [wp, (show ∀ n : Nat, _ = n from fun n => wf.2.2.2.2.2.2.2.2.2.2.2.2.2.1 (Int.ofNat n)), (show _ = (0 : Nat) from wf.2.2.2.2.2.2.2.2.2.2.2.2.2.1 0), getL, takeL, dropL, TK.isAgg, reduceIte])
    · (refine Later.mk ?_; cbv; try simp only [wp, (show ∀ n : Nat, _ = n from fun n => wf.2.2.2.2.2.2.2.2.2.2.2.2.2.1 (Int.ofNat n)), (show _ = (0 : Nat) from wf.2.2.2.2.2.2.2.2.2.2.2.2.2.1 0), getL, takeL, dropL, TK.isAgg, reduceIte])
      refine (Equal c c' n n' V P0 V' P' (by omega) (by omega)).call ?_
      rintro _ ⟨b, hb, rfl⟩
      (cbv; try simp only [wp, (show ∀ n : Nat, _ = n from fun n => wf.2.2.2.2.2.2.2.2.2.2.2.2.2.1 (Int.ofNat n)), (show _ = (0 : Nat) from wf.2.2.2.2.2.2.2.2.2.2.2.2.2.1 0), getL, takeL, dropL, TK.isAgg, reduceIte])
      repeat' first | trivial | with_reducible refine And.intro ?_ ?_ | intro c9
      all_goals exact hR b _ ⟨fun h => .inl (hb.1 h), fun h => h.elim hb.2 fun h => absurd ⟨v, v'⟩ h.1⟩
    · (refine Later.mk ?_; cbv; try simp only [wp, (show ∀ n : Nat, _ = n from fun n => wf.2.2.2.2.2.2.2.2.2.2.2.2.2.1 (Int.ofNat n)), (show _ = (0 : Nat) from wf.2.2.2.2.2.2.2.2.2.2.2.2.2.1 0), getL, takeL, dropL, TK.isAgg, reduceIte])
      refine ⟨fun c9 => ?_, fun c9 => (eq (fun h => v' h.2) _).1 c9⟩
      refine (sEqual n n' V P0 V' P' (by omega) (by omega)).call ?_
      rintro _ ⟨b, hb, rfl⟩
      (cbv; try simp only [wp, (show ∀ n : Nat, _ = n from fun n => wf.2.2.2.2.2.2.2.2.2.2.2.2.2.1 (Int.ofNat n)), (show _ = (0 : Nat) from wf.2.2.2.2.2.2.2.2.2.2.2.2.2.1 0), getL, takeL, dropL, TK.isAgg, reduceIte])
      repeat' first | trivial | with_reducible refine And.intro ?_ ?_ | intro c9
      all_goals exact (eq (fun h => v' h.2) _).2 c9 b hb
  · repeat' first | trivial | with_reducible refine And.intro ?_ ?_ | intro c9
    all_goals (refine Later.mk ?_; cbv; try simp only [wp, (show ∀ n : Nat, _ = n from fun n => wf.2.2.2.2.2.2.2.2.2.2.2.2.2.1 (Int.ofNat n)), (show _ = (0 : Nat) from wf.2.2.2.2.2.2.2.2.2.2.2.2.2.1 0), getL, takeL, dropL, TK.isAgg, reduceIte])
    all_goals
      refine ⟨fun c9 => ?_, fun c9 => (eq (fun h => v h.1) _).1 c9⟩
      refine (sEqual n n' V P0 V' P' (by omega) (by omega)).call ?_
      rintro _ ⟨b, hb, rfl⟩
      (cbv; try simp only [wp, (show ∀ n : Nat, _ = n from fun n => wf.2.2.2.2.2.2.2.2.2.2.2.2.2.1 (Int.ofNat n)), (show _ = (0 : Nat) from wf.2.2.2.2.2.2.2.2.2.2.2.2.2.1 0), getL, takeL, dropL, TK.isAgg, reduceIte])
      repeat' first | trivial | with_reducible refine And.intro ?_ ?_ | intro c9
      all_goals exact (eq (fun h => v h.1) _).2 c9 b hb
/-- two lists of levels -/
def SameLs (k k' : Nat) (C C' : Nat → Int) (N N' : Nat → Nat) (W Q W' Q' : Nat → Nat → Int) : Prop := k = k' ∧ ∀ i, i < k → SameLv (C i) (N i) (W i) (Q i) (C' i) (N' i) (W' i) (Q' i)
theorem eqFunc (k k' : Nat) (C C' : Nat → Int) (N N' : Nat → Nat) (W Q W' Q' : Nat → Nat → Int) (hk : k < 2 ^ 62) (hk' : k' < 2 ^ 62) (hN : ∀ i, i < k → N i < 2 ^ 61) (hN' : ∀ i, i < k' → N' i < 2 ^ 61) :
    VCalls (P ()) 77 [.d (.sl k 2 (lsF C N W Q)), .d (.sl k' 2 (lsF C' N' W' Q')), .clo 78 [] []] [] (fun r H => ∃ b : Bool, (b = true ↔ SameLs k k' C C' N N' W Q W' Q') ∧ r = .d (.bool b)) := by
  refine VCalls_of_Wo (Tf := fun {_} _ => fzT [] (T ())) (fun {_} => tabOk.frz []) [] 400 Tryd.func77 rfl (fun {_} => by kernel_rfl) (Nat.le_of_ble_eq_true rfl) @fun ⟨_, _, _, _, _, _, _, _, _, _, _, _, _, _, _, _, _, _, _, _, _, _, _, _, _, _, _, _, _, _, _, _, _, _, _, _, _, _, wp, wf⟩ nH R hnH hR => ?_
  subst hnH
  cbv
  try simp only [wp, (show ∀ n : Nat, _ = n from fun n => wf.2.2.2.2.2.2.2.2.2.2.2.2.2.1 (Int.ofNat n)), getL, takeL, dropL, TK.isAgg, reduceIte]
  replace hR := fun b H h => hR (.d (.bool b)) H ⟨b, h, rfl⟩
  repeat' first | with_reducible refine And.intro ?_ ?_ | intro c9
  all_goals (refine Later.mk ?_; cbv; try simp only [wp, (show ∀ n : Nat, _ = n from fun n => wf.2.2.2.2.2.2.2.2.2.2.2.2.2.1 (Int.ofNat n)), (show _ = (0 : Nat) from wf.2.2.2.2.2.2.2.2.2.2.2.2.2.1 0), getL, takeL, dropL, TK.isAgg, reduceIte])
  · exact hR false _ (iffF fun h => c9 (by have := h.1; exact (by (try simp only [wf, nc, nc', Int.toNat_natCast, bsz, ByteArray.size_append, List.length_cons, List.length_nil] at *); (try simp (disch := omega) only [w64, w32, wu8] at *); first | done | omega)))
  · obtain rfl : k = k' := (by (try simp only [wf, nc, nc', Int.toNat_natCast, bsz, ByteArray.size_append, List.length_cons, List.length_nil] at *); (try simp (disch := omega) only [w64, w32, wu8] at *); first | done | omega)
    clear c9
    refine loopO (Tf := fun {_} _ => fzT [] (T ())) (fun {_} => tabOk.frz []) [] 400 (fun i : Nat => ⟨[.undef, .d (.sl k 2 (lsF C' N' W' Q')), .clo 78 [] [], .undef, .undef, .undef, .d (.bool false), .undef, .undef, .undef, .undef, .undef, .undef, .undef, .undef, .d (.sl k 2 (lsF C N W Q)), .d (.int .i64 k), .d (.int .i64 i), .undef, .undef, .undef, .undef, .undef, .undef, .undef, .undef, .undef, .undef, .undef, .undef, .undef, .undef], []⟩) (fun i => k - i) (fun i => i ≤ k ∧ ∀ j, j < i → SameLv (C j) (N j) (W j) (Q j) (C' j) (N' j) (W' j) (Q' j)) 0 ⟨Nat.zero_le _, fun j hj => absurd hj (Nat.not_lt_zero _)⟩ (fun {_} => by kernel_rfl) ?_ (fun i => by kernel_rfl) @fun ⟨_, _, _, _, _, _, _, _, _, _, _, _, _, _, _, _, _, _, _, _, _, _, _, _, _, _, _, _, _, _, _, _, _, _, _, _, _, _, wpa, wfa⟩ i Bk hi hBk => ?_
    · ((cbv; try simp only [wf, exD, exL, exT, exB, exA, leLs, leL_d, leL_undef, leL_nils, leA_nils, deq_refl, deq_int, deq_bool, deq_str, and_true, true_and, AObj.iter.injEq, nc, nc']; try simp (disch := omega) only [w64, w32, wu8]); first | done | rfl | omega | (simp; done) | (simp; omega) | skip)
    obtain ⟨i1, i2⟩ := hi
    (cbv; try simp only [wp, (show ∀ n : Nat, _ = n from fun n => wf.2.2.2.2.2.2.2.2.2.2.2.2.2.1 (Int.ofNat n)), (show _ = (0 : Nat) from wf.2.2.2.2.2.2.2.2.2.2.2.2.2.1 0), wpa, (show ∀ n : Nat, _ = n from fun n => wfa.2.2.2.2.2.2.2.2.2.2.2.2.2.1 (Int.ofNat n)), (show _ = (0 : Nat) from wfa.2.2.2.2.2.2.2.2.2.2.2.2.2.1 0), getL, takeL, dropL, TK.isAgg, reduceIte])
    refine ⟨fun e1 => ?_, fun e1 => ?_⟩
    · have e1 : i < k := (by (try simp only [wf, wfa, nc, nc', Int.toNat_natCast, bsz, ByteArray.size_append, List.length_cons, List.length_nil] at *); (try simp (disch := omega) only [w64, w32, wu8] at *); first | done | omega)
      have h1 := hN i e1
      have h2 := hN' i e1
      (refine Later.mk ?_; cbv; try simp only [wp, (show ∀ n : Nat, _ = n from fun n => wf.2.2.2.2.2.2.2.2.2.2.2.2.2.1 (Int.ofNat n)), (show _ = (0 : Nat) from wf.2.2.2.2.2.2.2.2.2.2.2.2.2.1 0), wpa, (show ∀ n : Nat, _ = n from fun n => wfa.2.2.2.2.2.2.2.2.2.2.2.2.2.1 (Int.ofNat n)), (show _ = (0 : Nat) from wfa.2.2.2.2.2.2.2.2.2.2.2.2.2.1 0), getL, takeL, dropL, TK.isAgg, reduceIte])
      repeat' first | with_reducible refine And.intro ?_ ?_ | intro c9
      all_goals first | exact (by (try simp only [wf, wfa, nc, nc', Int.toNat_natCast, bsz, ByteArray.size_append, List.length_cons, List.length_nil] at *); (try simp (disch := omega) only [w64, w32, wu8] at *); first | done | omega) | trivial | skip
      refine (sameLevel _ _ _ _ _ _ _ _ h1 h2).call ?_
      rintro _ ⟨b, hb, rfl⟩
      rcases hb.dich with ⟨rfl, v⟩ | ⟨rfl, v⟩ <;> clear hb <;> (cbv; try simp only [wp, (show ∀ n : Nat, _ = n from fun n => wf.2.2.2.2.2.2.2.2.2.2.2.2.2.1 (Int.ofNat n)), (show _ = (0 : Nat) from wf.2.2.2.2.2.2.2.2.2.2.2.2.2.1 0), wpa, (show ∀ n : Nat, _ = n from fun n => wfa.2.2.2.2.2.2.2.2.2.2.2.2.2.1 (Int.ofNat n)), (show _ = (0 : Nat) from wfa.2.2.2.2.2.2.2.2.2.2.2.2.2.1 0), getL, takeL, dropL, TK.isAgg, reduceIte]) <;> (refine Later.mk ?_; cbv; try simp only [wp, (show ∀ n : Nat, _ = n from fun n => wf.2.2.2.2.2.2.2.2.2.2.2.2.2.1 (Int.ofNat n)), (show _ = (0 : Nat) from wf.2.2.2.2.2.2.2.2.2.2.2.2.2.1 0), wpa, (show ∀ n : Nat, _ = n from fun n => wfa.2.2.2.2.2.2.2.2.2.2.2.2.2.1 (Int.ofNat n)), (show _ = (0 : Nat) from wfa.2.2.2.2.2.2.2.2.2.2.2.2.2.1 0), getL, takeL, dropL, TK.isAgg, reduceIte])
      · refine hBk (i + 1) _ (by omega) ⟨by omega, fun j hj => ?_⟩ ?_
        · by_cases ej : j = i
          · subst ej; exact v
          · exact i2 j (by omega)
        · ((cbv; try simp only [wf, wfa, exD, exL, exT, exB, exA, leLs, leL_d, leL_undef, leL_nils, leA_nils, deq_refl, deq_int, deq_bool, deq_str, and_true, true_and, AObj.iter.injEq, nc, nc']; try simp (disch := omega) only [w64, w32, wu8]); first | done | rfl | omega | (simp; done) | (simp; omega) | skip)
      · exact hR false _ (iffF fun h => v (h.2 i e1))
    · obtain rfl : i = k := (by (try simp only [wf, wfa, nc, nc', Int.toNat_natCast, bsz, ByteArray.size_append, List.length_cons, List.length_nil] at *); (try simp (disch := omega) only [w64, w32, wu8] at *); first | done | omega)
      (refine Later.mk ?_; cbv; try simp only [wp, (show ∀ n : Nat, _ = n from fun n => wf.2.2.2.2.2.2.2.2.2.2.2.2.2.1 (Int.ofNat n)), (show _ = (0 : Nat) from wf.2.2.2.2.2.2.2.2.2.2.2.2.2.1 0), wpa, (show ∀ n : Nat, _ = n from fun n => wfa.2.2.2.2.2.2.2.2.2.2.2.2.2.1 (Int.ofNat n)), (show _ = (0 : Nat) from wfa.2.2.2.2.2.2.2.2.2.2.2.2.2.1 0), getL, takeL, dropL, TK.isAgg, reduceIte])
      exact hR true _ (iffT ⟨rfl, i2⟩)
theorem sameLevels (k k' : Nat) (C C' : Nat → Int) (N N' : Nat → Nat) (W Q W' Q' : Nat → Nat → Int) (hk : k < 2 ^ 62) (hk' : k' < 2 ^ 62) (hN : ∀ i, i < k → N i < 2 ^ 61) (hN' : ∀ i, i < k' → N' i < 2 ^ 61) :
    VFun (P ()) 79 [.d (.sl k 2 (lsF C N W Q)), .d (.sl k' 2 (lsF C' N' W' Q'))] (fun r => ∃ b : Bool, (b = true ↔ SameLs k k' C C' N N' W Q W' Q') ∧ r = .d (.bool b)) := by
  refine vfunO (Tf := fun {_} _ => fzT [] (T ())) (fun {_} => tabOk.frz []) [(7, upF 0 10), (9, upF 0 10)] 400 Tryd.func79 rfl (fun {_} => by kernel_rfl) rfl (Nat.le_of_ble_eq_true rfl) @fun ⟨_, _, _, _, _, _, _, _, _, _, _, _, _, _, _, _, _, _, _, _, _, _, _, _, _, _, _, _, _, _, _, _, _, _, _, _, _, _, wp, wf⟩ R hR => ?_
  cbv
  try simp only [wp, (show ∀ n : Nat, _ = n from fun n => wf.2.2.2.2.2.2.2.2.2.2.2.2.2.1 (Int.ofNat n)), getL, takeL, dropL, TK.isAgg, reduceIte]
  replace hR := fun b H h => hR _ H (.d (.bool b)) (.d _) ⟨b, h, rfl⟩
  repeat' first | with_reducible refine And.intro ?_ ?_ | intro c9
  all_goals (refine Later.mk ?_; cbv; try simp only [wp, (show ∀ n : Nat, _ = n from fun n => wf.2.2.2.2.2.2.2.2.2.2.2.2.2.1 (Int.ofNat n)), (show _ = (0 : Nat) from wf.2.2.2.2.2.2.2.2.2.2.2.2.2.1 0), getL, takeL, dropL, TK.isAgg, reduceIte])
  · exact hR false _ (iffF fun h => c9 (by have := h.1; exact (by (try simp only [wf, nc, nc', Int.toNat_natCast, bsz, ByteArray.size_append, List.length_cons, List.length_nil] at *); (try simp (disch := omega) only [w64, w32, wu8] at *); first | done | omega)))
  · obtain rfl : k = k' := (by (try simp only [wf, nc, nc', Int.toNat_natCast, bsz, ByteArray.size_append, List.length_cons, List.length_nil] at *); (try simp (disch := omega) only [w64, w32, wu8] at *); first | done | omega)
    clear c9
    refine loopO (Tf := fun {_} _ => fzT [] (T ())) (fun {_} => tabOk.frz []) [(7, upF 0 10), (9, upF 0 10)] 400 (fun i : Nat => ⟨[.d (.sl k 2 (lsF C N W Q)), .d (.sl k 2 (lsF C' N' W' Q')), .undef, .undef, .d (.bool false), .d (.int .i64 i), .undef, .undef, .undef, .undef, .undef, .undef, .undef, .undef, .undef, .undef, .undef, .undef, .undef, .undef, .undef, .undef, .undef, .undef, .undef, .undef, .undef, .undef, .undef, .undef, .undef, .undef, .undef, .undef, .undef, .undef, .undef, .undef, .undef, .undef, .undef, .undef, .undef, .undef, .undef, .undef, .undef, .undef, .undef], []⟩) (fun i => k - i) (fun i => i ≤ k ∧ ∀ j, j < i → SameLv (C j) (N j) (W j) (Q j) (C' j) (N' j) (W' j) (Q' j)) 0 ⟨Nat.zero_le _, fun j hj => absurd hj (Nat.not_lt_zero _)⟩ (fun {_} => by kernel_rfl) ?_ (fun i => by kernel_rfl) @fun ⟨_, _, _, _, _, _, _, _, _, _, _, _, _, _, _, _, _, _, _, _, _, _, _, _, _, _, _, _, _, _, _, _, _, _, _, _, _, _, wpa, wfa⟩ i Bk hi hBk => ?_
    · ((cbv; try simp only [wf, exD, exL, exT, exB, exA, leLs, leL_d, leL_undef, leL_nils, leA_nils, deq_refl, deq_int, deq_bool, deq_str, and_true, true_and, AObj.iter.injEq, nc, nc']; try simp (disch := omega) only [w64, w32, wu8]); first | done | rfl | omega | (simp; done) | (simp; omega) | skip)
    obtain ⟨i1, i2⟩ := hi
    (cbv; try simp only [wp, (show ∀ n : Nat, _ = n from fun n => wf.2.2.2.2.2.2.2.2.2.2.2.2.2.1 (Int.ofNat n)), (show _ = (0 : Nat) from wf.2.2.2.2.2.2.2.2.2.2.2.2.2.1 0), wpa, (show ∀ n : Nat, _ = n from fun n => wfa.2.2.2.2.2.2.2.2.2.2.2.2.2.1 (Int.ofNat n)), (show _ = (0 : Nat) from wfa.2.2.2.2.2.2.2.2.2.2.2.2.2.1 0), getL, takeL, dropL, TK.isAgg, reduceIte])
    refine ⟨fun e1 => ?_, fun e1 => ?_⟩
    · have e1 : i < k := (by (try simp only [wf, wfa, nc, nc', Int.toNat_natCast, bsz, ByteArray.size_append, List.length_cons, List.length_nil] at *); (try simp (disch := omega) only [w64, w32, wu8] at *); first | done | omega)
      have h1 := hN i e1
      have h2 := hN' i e1
      have no : ¬ SameLv (C i) (N i) (W i) (Q i) (C' i) (N' i) (W' i) (Q' i) → ∀ H, R (.d (.bool false)) H := fun v H => hR false _ (iffF fun h => v (h.2 i e1))
      have yes : SameLv (C i) (N i) (W i) (Q i) (C' i) (N' i) (W' i) (Q' i) → ∀ j, j < i + 1 → SameLv (C j) (N j) (W j) (Q j) (C' j) (N' j) (W' j) (Q' j) := fun v j hj => by
        by_cases ej : j = i
        · subst ej; exact v
        · exact i2 j (by omega)
      unfold SameLv at no yes
      (refine Later.mk ?_; cbv; try simp only [wp, (show ∀ n : Nat, _ = n from fun n => wf.2.2.2.2.2.2.2.2.2.2.2.2.2.1 (Int.ofNat n)), (show _ = (0 : Nat) from wf.2.2.2.2.2.2.2.2.2.2.2.2.2.1 0), wpa, (show ∀ n : Nat, _ = n from fun n => wfa.2.2.2.2.2.2.2.2.2.2.2.2.2.1 (Int.ofNat n)), (show _ = (0 : Nat) from wfa.2.2.2.2.2.2.2.2.2.2.2.2.2.1 0), getL, takeL, dropL, TK.isAgg, reduceIte])
      repeat' first | with_reducible refine And.intro ?_ ?_ | intro c9
      all_goals first | exact (by (try simp only [wf, wfa, nc, nc', Int.toNat_natCast, bsz, ByteArray.size_append, List.length_cons, List.length_nil] at *); (try simp (disch := omega) only [w64, w32, wu8] at *); first | done | omega) | trivial | skip
      refine (RValid (C i) (N i) (W i) (Q i) (by omega)).call ?_
      rintro _ ⟨b, hb, rfl⟩
      rcases hb.dich with ⟨rfl, v⟩ | ⟨rfl, v⟩ <;> clear hb <;> (cbv; try simp only [wp, (show ∀ n : Nat, _ = n from fun n => wf.2.2.2.2.2.2.2.2.2.2.2.2.2.1 (Int.ofNat n)), (show _ = (0 : Nat) from wf.2.2.2.2.2.2.2.2.2.2.2.2.2.1 0), wpa, (show ∀ n : Nat, _ = n from fun n => wfa.2.2.2.2.2.2.2.2.2.2.2.2.2.1 (Int.ofNat n)), (show _ = (0 : Nat) from wfa.2.2.2.2.2.2.2.2.2.2.2.2.2.1 0), getL, takeL, dropL, TK.isAgg, reduceIte])
      · repeat' first | (with_reducible refine And.intro ?_ ?_) | intro c9 | (refine Later.mk ?_; cbv; try simp only [wp, (show ∀ n : Nat, _ = n from fun n => wf.2.2.2.2.2.2.2.2.2.2.2.2.2.1 (Int.ofNat n)), (show _ = (0 : Nat) from wf.2.2.2.2.2.2.2.2.2.2.2.2.2.1 0), wpa, (show ∀ n : Nat, _ = n from fun n => wfa.2.2.2.2.2.2.2.2.2.2.2.2.2.1 (Int.ofNat n)), (show _ = (0 : Nat) from wfa.2.2.2.2.2.2.2.2.2.2.2.2.2.1 0), getL, takeL, dropL, TK.isAgg, reduceIte])
        all_goals first | exact (by (try simp only [wf, wfa, nc, nc', Int.toNat_natCast, bsz, ByteArray.size_append, List.length_cons, List.length_nil] at *); (try simp (disch := omega) only [w64, w32, wu8] at *); first | done | omega) | skip
        refine (RValid (C' i) (N' i) (W' i) (Q' i) (by omega)).call ?_
        rintro _ ⟨b, hb, rfl⟩
        rcases hb.dich with ⟨rfl, v'⟩ | ⟨rfl, v'⟩ <;> clear hb <;> (cbv; try simp only [wp, (show ∀ n : Nat, _ = n from fun n => wf.2.2.2.2.2.2.2.2.2.2.2.2.2.1 (Int.ofNat n)), (show _ = (0 : Nat) from wf.2.2.2.2.2.2.2.2.2.2.2.2.2.1 0), wpa, (show ∀ n : Nat, _ = n from fun n => wfa.2.2.2.2.2.2.2.2.2.2.2.2.2.1 (Int.ofNat n)), (show _ = (0 : Nat) from wfa.2.2.2.2.2.2.2.2.2.2.2.2.2.1 0), getL, takeL, dropL, TK.isAgg, reduceIte])
        · repeat' first | (with_reducible refine And.intro ?_ ?_) | intro c9 | (refine Later.mk ?_; cbv; try simp only [wp, (show ∀ n : Nat, _ = n from fun n => wf.2.2.2.2.2.2.2.2.2.2.2.2.2.1 (Int.ofNat n)), (show _ = (0 : Nat) from wf.2.2.2.2.2.2.2.2.2.2.2.2.2.1 0), wpa, (show ∀ n : Nat, _ = n from fun n => wfa.2.2.2.2.2.2.2.2.2.2.2.2.2.1 (Int.ofNat n)), (show _ = (0 : Nat) from wfa.2.2.2.2.2.2.2.2.2.2.2.2.2.1 0), getL, takeL, dropL, TK.isAgg, reduceIte])
          all_goals first | exact (by (try simp only [wf, wfa, nc, nc', Int.toNat_natCast, bsz, ByteArray.size_append, List.length_cons, List.length_nil] at *); (try simp (disch := omega) only [w64, w32, wu8] at *); first | done | omega) | skip
          refine (REqual (C i) (C' i) (N i) (N' i) (W i) (Q i) (W' i) (Q' i) (by omega) (by omega)).call ?_
          rintro _ ⟨b, hb, rfl⟩
          rcases hb.dich with ⟨rfl, u⟩ | ⟨rfl, u⟩ <;> clear hb <;> (cbv; try simp only [wp, (show ∀ n : Nat, _ = n from fun n => wf.2.2.2.2.2.2.2.2.2.2.2.2.2.1 (Int.ofNat n)), (show _ = (0 : Nat) from wf.2.2.2.2.2.2.2.2.2.2.2.2.2.1 0), wpa, (show ∀ n : Nat, _ = n from fun n => wfa.2.2.2.2.2.2.2.2.2.2.2.2.2.1 (Int.ofNat n)), (show _ = (0 : Nat) from wfa.2.2.2.2.2.2.2.2.2.2.2.2.2.1 0), getL, takeL, dropL, TK.isAgg, reduceIte]) <;> (refine Later.mk ?_; cbv; try simp only [wp, (show ∀ n : Nat, _ = n from fun n => wf.2.2.2.2.2.2.2.2.2.2.2.2.2.1 (Int.ofNat n)), (show _ = (0 : Nat) from wf.2.2.2.2.2.2.2.2.2.2.2.2.2.1 0), wpa, (show ∀ n : Nat, _ = n from fun n => wfa.2.2.2.2.2.2.2.2.2.2.2.2.2.1 (Int.ofNat n)), (show _ = (0 : Nat) from wfa.2.2.2.2.2.2.2.2.2.2.2.2.2.1 0), getL, takeL, dropL, TK.isAgg, reduceIte])
          · refine hBk (i + 1) _ (by omega) ⟨by omega, yes (.inl u)⟩ ?_
            ((cbv; try simp only [wf, wfa, exD, exL, exT, exB, exA, leLs, leL_d, leL_undef, leL_nils, leA_nils, deq_refl, deq_int, deq_bool, deq_str, and_true, true_and, AObj.iter.injEq, nc, nc']; try simp (disch := omega) only [w64, w32, wu8]); first | done | rfl | omega | (simp; done) | (simp; omega) | skip)
          · exact no (fun h => h.elim u fun h => h.1 ⟨v, v'⟩) _
        · repeat' first | (with_reducible refine And.intro ?_ ?_) | intro c9 | (refine Later.mk ?_; cbv; try simp only [wp, (show ∀ n : Nat, _ = n from fun n => wf.2.2.2.2.2.2.2.2.2.2.2.2.2.1 (Int.ofNat n)), (show _ = (0 : Nat) from wf.2.2.2.2.2.2.2.2.2.2.2.2.2.1 0), wpa, (show ∀ n : Nat, _ = n from fun n => wfa.2.2.2.2.2.2.2.2.2.2.2.2.2.1 (Int.ofNat n)), (show _ = (0 : Nat) from wfa.2.2.2.2.2.2.2.2.2.2.2.2.2.1 0), getL, takeL, dropL, TK.isAgg, reduceIte])
          all_goals first | exact (by (try simp only [wf, wfa, nc, nc', Int.toNat_natCast, bsz, ByteArray.size_append, List.length_cons, List.length_nil] at *); (try simp (disch := omega) only [w64, w32, wu8] at *); first | done | omega) | skip
          refine (EqLevel (C i) (C' i) (N i) (N' i) (W i) (Q i) (W' i) (Q' i) (by omega) (by omega)).call ?_
          rintro _ ⟨b, hb, rfl⟩
          rcases hb.dich with ⟨rfl, u⟩ | ⟨rfl, u⟩ <;> clear hb <;> (cbv; try simp only [wp, (show ∀ n : Nat, _ = n from fun n => wf.2.2.2.2.2.2.2.2.2.2.2.2.2.1 (Int.ofNat n)), (show _ = (0 : Nat) from wf.2.2.2.2.2.2.2.2.2.2.2.2.2.1 0), wpa, (show ∀ n : Nat, _ = n from fun n => wfa.2.2.2.2.2.2.2.2.2.2.2.2.2.1 (Int.ofNat n)), (show _ = (0 : Nat) from wfa.2.2.2.2.2.2.2.2.2.2.2.2.2.1 0), getL, takeL, dropL, TK.isAgg, reduceIte]) <;> (refine Later.mk ?_; cbv; try simp only [wp, (show ∀ n : Nat, _ = n from fun n => wf.2.2.2.2.2.2.2.2.2.2.2.2.2.1 (Int.ofNat n)), (show _ = (0 : Nat) from wf.2.2.2.2.2.2.2.2.2.2.2.2.2.1 0), wpa, (show ∀ n : Nat, _ = n from fun n => wfa.2.2.2.2.2.2.2.2.2.2.2.2.2.1 (Int.ofNat n)), (show _ = (0 : Nat) from wfa.2.2.2.2.2.2.2.2.2.2.2.2.2.1 0), getL, takeL, dropL, TK.isAgg, reduceIte])
          · refine hBk (i + 1) _ (by omega) ⟨by omega, yes (.inr ⟨(fun h => v' h.2), u⟩)⟩ ?_
            ((cbv; try simp only [wf, wfa, exD, exL, exT, exB, exA, leLs, leL_d, leL_undef, leL_nils, leA_nils, deq_refl, deq_int, deq_bool, deq_str, and_true, true_and, AObj.iter.injEq, nc, nc']; try simp (disch := omega) only [w64, w32, wu8]); first | done | rfl | omega | (simp; done) | (simp; omega) | skip)
          · exact no (fun h => h.elim (fun h => v' h.2.1) fun h => u h.2) _
      · repeat' first | (with_reducible refine And.intro ?_ ?_) | intro c9 | (refine Later.mk ?_; cbv; try simp only [wp, (show ∀ n : Nat, _ = n from fun n => wf.2.2.2.2.2.2.2.2.2.2.2.2.2.1 (Int.ofNat n)), (show _ = (0 : Nat) from wf.2.2.2.2.2.2.2.2.2.2.2.2.2.1 0), wpa, (show ∀ n : Nat, _ = n from fun n => wfa.2.2.2.2.2.2.2.2.2.2.2.2.2.1 (Int.ofNat n)), (show _ = (0 : Nat) from wfa.2.2.2.2.2.2.2.2.2.2.2.2.2.1 0), getL, takeL, dropL, TK.isAgg, reduceIte])
        all_goals first | exact (by (try simp only [wf, wfa, nc, nc', Int.toNat_natCast, bsz, ByteArray.size_append, List.length_cons, List.length_nil] at *); (try simp (disch := omega) only [w64, w32, wu8] at *); first | done | omega) | skip
        refine (EqLevel (C i) (C' i) (N i) (N' i) (W i) (Q i) (W' i) (Q' i) (by omega) (by omega)).call ?_
        rintro _ ⟨b, hb, rfl⟩
        rcases hb.dich with ⟨rfl, u⟩ | ⟨rfl, u⟩ <;> clear hb <;> (cbv; try simp only [wp, (show ∀ n : Nat, _ = n from fun n => wf.2.2.2.2.2.2.2.2.2.2.2.2.2.1 (Int.ofNat n)), (show _ = (0 : Nat) from wf.2.2.2.2.2.2.2.2.2.2.2.2.2.1 0), wpa, (show ∀ n : Nat, _ = n from fun n => wfa.2.2.2.2.2.2.2.2.2.2.2.2.2.1 (Int.ofNat n)), (show _ = (0 : Nat) from wfa.2.2.2.2.2.2.2.2.2.2.2.2.2.1 0), getL, takeL, dropL, TK.isAgg, reduceIte]) <;> (refine Later.mk ?_; cbv; try simp only [wp, (show ∀ n : Nat, _ = n from fun n => wf.2.2.2.2.2.2.2.2.2.2.2.2.2.1 (Int.ofNat n)), (show _ = (0 : Nat) from wf.2.2.2.2.2.2.2.2.2.2.2.2.2.1 0), wpa, (show ∀ n : Nat, _ = n from fun n => wfa.2.2.2.2.2.2.2.2.2.2.2.2.2.1 (Int.ofNat n)), (show _ = (0 : Nat) from wfa.2.2.2.2.2.2.2.2.2.2.2.2.2.1 0), getL, takeL, dropL, TK.isAgg, reduceIte])
        · refine hBk (i + 1) _ (by omega) ⟨by omega, yes (.inr ⟨(fun h => v h.1), u⟩)⟩ ?_
          ((cbv; try simp only [wf, wfa, exD, exL, exT, exB, exA, leLs, leL_d, leL_undef, leL_nils, leA_nils, deq_refl, deq_int, deq_bool, deq_str, and_true, true_and, AObj.iter.injEq, nc, nc']; try simp (disch := omega) only [w64, w32, wu8]); first | done | rfl | omega | (simp; done) | (simp; omega) | skip)
        · exact no (fun h => h.elim (fun h => v h.1) fun h => u h.2) _
    · obtain rfl : i = k := (by (try simp only [wf, wfa, nc, nc', Int.toNat_natCast, bsz, ByteArray.size_append, List.length_cons, List.length_nil] at *); (try simp (disch := omega) only [w64, w32, wu8] at *); first | done | omega)
      (refine Later.mk ?_; cbv; try simp only [wp, (show ∀ n : Nat, _ = n from fun n => wf.2.2.2.2.2.2.2.2.2.2.2.2.2.1 (Int.ofNat n)), (show _ = (0 : Nat) from wf.2.2.2.2.2.2.2.2.2.2.2.2.2.1 0), wpa, (show ∀ n : Nat, _ = n from fun n => wfa.2.2.2.2.2.2.2.2.2.2.2.2.2.1 (Int.ofNat n)), (show _ = (0 : Nat) from wfa.2.2.2.2.2.2.2.2.2.2.2.2.2.1 0), getL, takeL, dropL, TK.isAgg, reduceIte])
      exact hR true _ (iffT ⟨rfl, i2⟩)
end Go.VM

namespace Go.VM
open Go.Proofs Go
set_option maxRecDepth 100000
set_option linter.unusedVariables false
set_option linter.unusedSimpArgs false
/-- two terms compared, but for parts that are let off -/
def CmpT (Off : Int → Int → Nat → Prop) : Tm → Tm → Prop
  | .mk op n s k C N W Q m _ L, .mk op' n' s' k' C' N' W' Q' m' _ L' => op = op' ∧ n = n' ∧ s = s' ∧ SameLs k k' C C' N N' W Q W' Q' ∧ m = m' ∧ ∀ (i : Fin m) (h : i.1 < m'), Off op n i ∨ CmpT Off (L i) (L' ⟨i.1, h⟩)
section
variable {op n : Int} {s : ByteArray} {k : Nat} {C : Nat → Int} {N : Nat → Nat} {W Q : Nat → Nat → Int} {m : Nat} {ok : TmOk op n s k N m} {K : Nat → Tm}
variable {op' n' : Int} {s' : ByteArray} {k' : Nat} {C' : Nat → Int} {N' : Nat → Nat} {W' Q' : Nat → Nat → Int} {m' : Nat} {ok' : TmOk op' n' s' k' N' m'} {K' : Nat → Tm}
theorem CmpT_nd (Off : Int → Int → Nat → Prop) : CmpT Off (.nd op n s k C N W Q m ok K) (.nd op' n' s' k' C' N' W' Q' m' ok' K') ↔ op = op' ∧ n = n' ∧ s = s' ∧ SameLs k k' C C' N N' W Q W' Q' ∧ m = m' ∧ ∀ i, i < m → Off op n i ∨ CmpT Off (K i) (K' i) := by
  have e : CmpT Off (.nd op n s k C N W Q m ok K) (.nd op' n' s' k' C' N' W' Q' m' ok' K') ↔ (op = op' ∧ n = n' ∧ s = s' ∧ SameLs k k' C C' N N' W Q W' Q' ∧ m = m' ∧ ∀ (i : Fin m) (h : i.1 < m'), Off op n i ∨ CmpT Off (K i) (K' i)) := by simp only [Tm.nd, CmpT]
  rw [e]
  constructor
  · rintro ⟨h1, h2, h3, h4, h5, h6⟩
    exact ⟨h1, h2, h3, h4, h5, fun i hi => h6 ⟨i, hi⟩ (by dsimp only; omega)⟩
  · rintro ⟨h1, h2, h3, h4, h5, h6⟩
    exact ⟨h1, h2, h3, h4, h5, fun i h => h6 i i.2⟩
end
theorem sameOff (op n : Int) (s : ByteArray) (k : Nat) (C : Nat → Int) (N : Nat → Nat) (W Q : Nat → Nat → Int) (m : Nat) (G : Nat → Nat → D) (i : Nat) : VFun (P ()) 47 [tml op n s k C N W Q m G, .d (.int .i64 i)] (fun r => ∃ b : Bool, (b = true ↔ False) ∧ r = .d (.bool b)) := by
  refine vfunO (Tf := fun {_} _ => fzT [2] (T ())) (fun {_} => tabOk.frz [2]) [] 400 Tryd.func47 rfl (fun {_} => by kernel_rfl) rfl (Nat.le_of_ble_eq_true rfl) @fun ⟨_, _, _, _, _, _, _, _, _, _, _, _, _, _, _, _, _, _, _, _, _, _, _, _, _, _, _, _, _, _, _, _, _, _, _, _, _, _, wp, wf⟩ R hR => ?_
  cbv
  try simp only [wp, (show ∀ n : Nat, _ = n from fun n => wf.2.2.2.2.2.2.2.2.2.2.2.2.2.1 (Int.ofNat n)), getL, takeL, dropL, TK.isAgg, reduceIte]
  exact hR _ _ _ (.d (.bool false)) ⟨false, by simp, rfl⟩
set_option maxHeartbeats 4000000 in
theorem comparedS (Off : Int → Int → Nat → Prop) (hoff : ∀ op n s k C N W Q m G (i : Nat), m < 2 ^ 62 → i < m → VFun (P ()) 47 [tml op n s k C N W Q m G, .d (.int .i64 i)] (fun r => ∃ b : Bool, (b = true ↔ Off op n i) ∧ r = .d (.bool b))) (a : Tm) :
    Light a 400 → ∀ b, Light b 400 → VFun (P ()) 46 [tm a, tm b, .clo 47 [] []] (fun r => ∃ b' : Bool, (b' = true ↔ CmpT Off a b) ∧ r = .d (.bool b')) := by
  refine Tm.walk (P := fun a => Light a 400 → ∀ b, Light b 400 → VFun (P ()) 46 [tm a, tm b, .clo 47 [] []] (fun r => ∃ b' : Bool, (b' = true ↔ CmpT Off a b) ∧ r = .d (.bool b'))) ?_ a
  clear a
  intro op n s k C N W Q m ok K G hG e ih hl b
  refine Tm.walk (P := fun b => Light b 400 → VFun (P ()) 46 [tm (.nd op n s k C N W Q m ok K), tm b, .clo 47 [] []] (fun r => ∃ b' : Bool, (b' = true ↔ CmpT Off (.nd op n s k C N W Q m ok K) b) ∧ r = .d (.bool b'))) ?_ b
  clear b
  intro op' n' s' k' C' N' W' Q' m' ok' K' G' hG' e' _ hl'
  obtain ⟨l1, l2, l3, l4⟩ := hl.kid
  obtain ⟨l1', l2', l3', l4'⟩ := hl'.kid
  rw [e, e', CmpT_nd]
  clear e e' hl hl'
  refine VCalls.pureC (R1 := fun r H => ∃ b' : Bool, (b' = true ↔ op = op' ∧ n = n' ∧ s = s' ∧ SameLs k k' C C' N N' W Q W' Q' ∧ m = m' ∧ ∀ i, i < m → Off op n i ∨ CmpT Off (K i) (K' i)) ∧ r = .d (.bool b')) ?_ rfl rfl fun r H h => by
    obtain ⟨x, h1, rfl⟩ := h
    exact ⟨_, .keep _ (.d _), x, h1, rfl⟩
  have hls : VFun (P ()) 77 [.d (.sl k 2 (lsF C N W Q)), .d (.sl k' 2 (lsF C' N' W' Q')), .clo 78 [] []] (fun r => ∃ b : Bool, (b = true ↔ SameLs k k' C C' N N' W Q W' Q') ∧ r = .d (.bool b)) :=
    (eqFunc k k' C C' N N' W Q W' Q' (by omega) (by omega) (fun i hi => by have := l3 i hi; omega) (fun i hi => by have := l3' i hi; omega)).pureC rfl rfl fun r H h => by
      obtain ⟨x, h1, rfl⟩ := h
      exact ⟨_, .keep _ (.d _), x, h1, rfl⟩
  refine VCalls_of_Wl (Tf := fun {_} _ => fzT [3, 4] (T ())) (fun {_} => tabOk.frz [3, 4]) [(6, upF 0 20)] 400 Tryd.func46 rfl (fun {_} => by kernel_rfl) (Nat.le_of_ble_eq_true rfl) @fun ⟨_, _, _, _, _, _, _, _, _, _, _, _, _, _, _, _, _, _, _, _, _, _, _, _, _, _, _, _, _, _, _, _, _, _, _, _, _, _, wp, wf⟩ nH R hnH hR => ?_
  subst hnH
  cbv
  try simp only [wp, (show ∀ n : Nat, _ = n from fun n => wf.2.2.2.2.2.2.2.2.2.2.2.2.2.1 (Int.ofNat n)), getL, takeL, dropL, TK.isAgg, reduceIte]
  replace hR := fun b H h => hR (.d (.bool b)) H ⟨b, h, rfl⟩
  repeat' first | (with_reducible refine And.intro ?_ ?_) | intro c9 | (refine Later.mk ?_; cbv; try simp only [wp, (show ∀ n : Nat, _ = n from fun n => wf.2.2.2.2.2.2.2.2.2.2.2.2.2.1 (Int.ofNat n)), (show _ = (0 : Nat) from wf.2.2.2.2.2.2.2.2.2.2.2.2.2.1 0), getL, takeL, dropL, TK.isAgg, reduceIte])
  · exact hR false _ (iffF fun h => by
      have h1 := h.1
      first | exact absurd h1 (by assumption) | exact absurd h1 (by (try simp only [wf, nc, nc', Int.toNat_natCast, bsz, ByteArray.size_append, List.length_cons, List.length_nil] at *); (try simp (disch := omega) only [w64, w32, wu8] at *); first | done | omega))
  · exact hR false _ (iffF fun h => by
      have h1 := h.2.1
      first | exact absurd h1 (by assumption) | exact absurd h1 (by (try simp only [wf, nc, nc', Int.toNat_natCast, bsz, ByteArray.size_append, List.length_cons, List.length_nil] at *); (try simp (disch := omega) only [w64, w32, wu8] at *); first | done | omega))
  · exact hR false _ (iffF fun h => absurd h.2.2.1 (by assumption))
  · exact hR false _ (iffF fun h => by
      have h1 := h.2.2.2.2.1
      exact absurd h1 (by (try simp only [wf, nc, nc', Int.toNat_natCast, bsz, ByteArray.size_append, List.length_cons, List.length_nil] at *); (try simp (disch := omega) only [w64, w32, wu8] at *); first | done | omega))
  · obtain rfl : op = op' := by assumption
    obtain rfl : n = n' := by assumption
    obtain rfl : s = s' := by assumption
    obtain rfl : m = m' := (by (try simp only [wf, nc, nc', Int.toNat_natCast, bsz, ByteArray.size_append, List.length_cons, List.length_nil] at *); (try simp (disch := omega) only [w64, w32, wu8] at *); first | done | omega)
    refine hls.call ?_
    rintro _ ⟨b, hb, rfl⟩
    rcases hb.dich with ⟨rfl, v⟩ | ⟨rfl, v⟩ <;> clear hb <;> (cbv; try simp only [wp, (show ∀ n : Nat, _ = n from fun n => wf.2.2.2.2.2.2.2.2.2.2.2.2.2.1 (Int.ofNat n)), (show _ = (0 : Nat) from wf.2.2.2.2.2.2.2.2.2.2.2.2.2.1 0), getL, takeL, dropL, TK.isAgg, reduceIte])
    · repeat' first | (with_reducible refine And.intro ?_ ?_) | intro c9 | (refine Later.mk ?_; cbv; try simp only [wp, (show ∀ n : Nat, _ = n from fun n => wf.2.2.2.2.2.2.2.2.2.2.2.2.2.1 (Int.ofNat n)), (show _ = (0 : Nat) from wf.2.2.2.2.2.2.2.2.2.2.2.2.2.1 0), getL, takeL, dropL, TK.isAgg, reduceIte])
      refine loopL (Tf := fun {_} _ => fzT [3, 4] (T ())) (fun {_} => tabOk.frz [3, 4]) [(6, upF 0 20)] 400 (fun i : Nat => ⟨[.undef, .undef, .clo 47 [] [], .iptr (fun x j => getL [.int .i64 op, .int .i64 n, .str s, .sl k 2 (lsF C N W Q), .sl m 5 G] j .nilp) 0 0 5, .iptr (fun x j => getL [.int .i64 op, .int .i64 n, .str s, .sl k' 2 (lsF C' N' W' Q'), .sl m 5 G'] j .nilp) 0 0 5, .undef, .d (.bool false), .undef, .undef, .undef, .undef, .undef, .undef, .undef, .undef, .undef, .undef, .undef, .undef, .undef, .undef, .undef, .undef, .undef, .undef, .undef, .undef, .undef, .undef, .undef, .undef, .undef, .undef, .undef, .undef, .undef, .undef, .undef, .undef, .undef, .undef, .undef, .undef, .undef, .undef, .undef, .d (.int .i64 m), .d (.int .i64 i), .undef, .undef, .undef, .undef, .undef, .undef, .undef, .undef, .undef, .undef, .undef, .undef, .undef, .undef, .undef, .undef, .undef, .undef, .undef, .undef, .undef, .undef, .undef], []⟩) (fun i => m - i) (fun i => i ≤ m ∧ ∀ j, j < i → Off op n j ∨ CmpT Off (K j) (K' j)) 0 ⟨Nat.zero_le _, fun j hj => absurd hj (Nat.not_lt_zero _)⟩ (fun {_} => by kernel_rfl) ?_ (fun i => by kernel_rfl) @fun ⟨_, _, _, _, _, _, _, _, _, _, _, _, _, _, _, _, _, _, _, _, _, _, _, _, _, _, _, _, _, _, _, _, _, _, _, _, _, _, wpa, wfa⟩ i Bk hi hBk => ?_
      · ((cbv; try simp only [wf, exD, exL, exT, exB, exA, leLs, leL_d, leL_undef, leL_nils, leA_nils, deq_refl, deq_int, deq_bool, deq_str, and_true, true_and, AObj.iter.injEq, nc, nc']; try simp (disch := omega) only [w64, w32, wu8]); first | done | rfl | omega | (simp; done) | (simp; omega) | skip)
      obtain ⟨i1, i2⟩ := hi
      (cbv; try simp only [wp, (show ∀ n : Nat, _ = n from fun n => wf.2.2.2.2.2.2.2.2.2.2.2.2.2.1 (Int.ofNat n)), (show _ = (0 : Nat) from wf.2.2.2.2.2.2.2.2.2.2.2.2.2.1 0), wpa, (show ∀ n : Nat, _ = n from fun n => wfa.2.2.2.2.2.2.2.2.2.2.2.2.2.1 (Int.ofNat n)), (show _ = (0 : Nat) from wfa.2.2.2.2.2.2.2.2.2.2.2.2.2.1 0), getL, takeL, dropL, TK.isAgg, reduceIte])
      refine ⟨fun e1 => ?_, fun e1 => ?_⟩
      · have e1 : i < m := (by (try simp only [wf, wfa, nc, nc', Int.toNat_natCast, bsz, ByteArray.size_append, List.length_cons, List.length_nil] at *); (try simp (disch := omega) only [w64, w32, wu8] at *); first | done | omega)
        have ho := hoff op n s k C N W Q m G i (by omega) e1
        have ihi := ih i e1 (l4 i e1) (K' i) (l4' i e1)
        rw [hG i e1, hG' i e1] at ihi
        have step : Off op n i ∨ CmpT Off (K i) (K' i) → ∀ j, j < i + 1 → Off op n j ∨ CmpT Off (K j) (K' j) := fun v j hj => by
          by_cases ej : j = i
          · subst ej; exact v
          · exact i2 j (by omega)
        repeat' first | (with_reducible refine And.intro ?_ ?_) | intro c9 | (refine Later.mk ?_; cbv; try simp only [wp, (show ∀ n : Nat, _ = n from fun n => wf.2.2.2.2.2.2.2.2.2.2.2.2.2.1 (Int.ofNat n)), (show _ = (0 : Nat) from wf.2.2.2.2.2.2.2.2.2.2.2.2.2.1 0), wpa, (show ∀ n : Nat, _ = n from fun n => wfa.2.2.2.2.2.2.2.2.2.2.2.2.2.1 (Int.ofNat n)), (show _ = (0 : Nat) from wfa.2.2.2.2.2.2.2.2.2.2.2.2.2.1 0), getL, takeL, dropL, TK.isAgg, reduceIte])
        all_goals first | exact (by (try simp only [wf, wfa, nc, nc', Int.toNat_natCast, bsz, ByteArray.size_append, List.length_cons, List.length_nil] at *); (try simp (disch := omega) only [w64, w32, wu8] at *); first | done | omega) | skip
        refine ho.call ?_
        rintro _ ⟨b, hb, rfl⟩
        rcases hb.dich with ⟨rfl, u⟩ | ⟨rfl, u⟩ <;> clear hb <;> (cbv; try simp only [wp, (show ∀ n : Nat, _ = n from fun n => wf.2.2.2.2.2.2.2.2.2.2.2.2.2.1 (Int.ofNat n)), (show _ = (0 : Nat) from wf.2.2.2.2.2.2.2.2.2.2.2.2.2.1 0), wpa, (show ∀ n : Nat, _ = n from fun n => wfa.2.2.2.2.2.2.2.2.2.2.2.2.2.1 (Int.ofNat n)), (show _ = (0 : Nat) from wfa.2.2.2.2.2.2.2.2.2.2.2.2.2.1 0), getL, takeL, dropL, TK.isAgg, reduceIte])
        · repeat' first | (with_reducible refine And.intro ?_ ?_) | intro c9 | (refine Later.mk ?_; cbv; try simp only [wp, (show ∀ n : Nat, _ = n from fun n => wf.2.2.2.2.2.2.2.2.2.2.2.2.2.1 (Int.ofNat n)), (show _ = (0 : Nat) from wf.2.2.2.2.2.2.2.2.2.2.2.2.2.1 0), wpa, (show ∀ n : Nat, _ = n from fun n => wfa.2.2.2.2.2.2.2.2.2.2.2.2.2.1 (Int.ofNat n)), (show _ = (0 : Nat) from wfa.2.2.2.2.2.2.2.2.2.2.2.2.2.1 0), getL, takeL, dropL, TK.isAgg, reduceIte])
          refine hBk (i + 1) _ (by omega) ⟨by omega, step (.inl u)⟩ ?_
          ((cbv; try simp only [wf, wfa, exD, exL, exT, exB, exA, leLs, leL_d, leL_undef, leL_nils, leA_nils, deq_refl, deq_int, deq_bool, deq_str, and_true, true_and, AObj.iter.injEq, nc, nc']; try simp (disch := omega) only [w64, w32, wu8]); first | done | rfl | omega | (simp; done) | (simp; omega) | skip)
        · repeat' first | (with_reducible refine And.intro ?_ ?_) | intro c9 | (refine Later.mk ?_; cbv; try simp only [wp, (show ∀ n : Nat, _ = n from fun n => wf.2.2.2.2.2.2.2.2.2.2.2.2.2.1 (Int.ofNat n)), (show _ = (0 : Nat) from wf.2.2.2.2.2.2.2.2.2.2.2.2.2.1 0), wpa, (show ∀ n : Nat, _ = n from fun n => wfa.2.2.2.2.2.2.2.2.2.2.2.2.2.1 (Int.ofNat n)), (show _ = (0 : Nat) from wfa.2.2.2.2.2.2.2.2.2.2.2.2.2.1 0), getL, takeL, dropL, TK.isAgg, reduceIte])
          all_goals first | exact (by (try simp only [wf, wfa, nc, nc', Int.toNat_natCast, bsz, ByteArray.size_append, List.length_cons, List.length_nil] at *); (try simp (disch := omega) only [w64, w32, wu8] at *); first | done | omega) | skip
          refine ihi.call ?_
          rintro _ ⟨b, hb, rfl⟩
          rcases hb.dich with ⟨rfl, z⟩ | ⟨rfl, z⟩ <;> clear hb <;> (cbv; try simp only [wp, (show ∀ n : Nat, _ = n from fun n => wf.2.2.2.2.2.2.2.2.2.2.2.2.2.1 (Int.ofNat n)), (show _ = (0 : Nat) from wf.2.2.2.2.2.2.2.2.2.2.2.2.2.1 0), wpa, (show ∀ n : Nat, _ = n from fun n => wfa.2.2.2.2.2.2.2.2.2.2.2.2.2.1 (Int.ofNat n)), (show _ = (0 : Nat) from wfa.2.2.2.2.2.2.2.2.2.2.2.2.2.1 0), getL, takeL, dropL, TK.isAgg, reduceIte])
          · repeat' first | (with_reducible refine And.intro ?_ ?_) | intro c9 | (refine Later.mk ?_; cbv; try simp only [wp, (show ∀ n : Nat, _ = n from fun n => wf.2.2.2.2.2.2.2.2.2.2.2.2.2.1 (Int.ofNat n)), (show _ = (0 : Nat) from wf.2.2.2.2.2.2.2.2.2.2.2.2.2.1 0), wpa, (show ∀ n : Nat, _ = n from fun n => wfa.2.2.2.2.2.2.2.2.2.2.2.2.2.1 (Int.ofNat n)), (show _ = (0 : Nat) from wfa.2.2.2.2.2.2.2.2.2.2.2.2.2.1 0), getL, takeL, dropL, TK.isAgg, reduceIte])
            refine hBk (i + 1) _ (by omega) ⟨by omega, step (.inr z)⟩ ?_
            ((cbv; try simp only [wf, wfa, exD, exL, exT, exB, exA, leLs, leL_d, leL_undef, leL_nils, leA_nils, deq_refl, deq_int, deq_bool, deq_str, and_true, true_and, AObj.iter.injEq, nc, nc']; try simp (disch := omega) only [w64, w32, wu8]); first | done | rfl | omega | (simp; done) | (simp; omega) | skip)
          · repeat' first | (with_reducible refine And.intro ?_ ?_) | intro c9 | (refine Later.mk ?_; cbv; try simp only [wp, (show ∀ n : Nat, _ = n from fun n => wf.2.2.2.2.2.2.2.2.2.2.2.2.2.1 (Int.ofNat n)), (show _ = (0 : Nat) from wf.2.2.2.2.2.2.2.2.2.2.2.2.2.1 0), wpa, (show ∀ n : Nat, _ = n from fun n => wfa.2.2.2.2.2.2.2.2.2.2.2.2.2.1 (Int.ofNat n)), (show _ = (0 : Nat) from wfa.2.2.2.2.2.2.2.2.2.2.2.2.2.1 0), getL, takeL, dropL, TK.isAgg, reduceIte])
            exact hR false _ (iffF fun h => (h.2.2.2.2.2 i e1).elim u z)
      · obtain rfl : i = m := (by (try simp only [wf, wfa, nc, nc', Int.toNat_natCast, bsz, ByteArray.size_append, List.length_cons, List.length_nil] at *); (try simp (disch := omega) only [w64, w32, wu8] at *); first | done | omega)
        (refine Later.mk ?_; cbv; try simp only [wp, (show ∀ n : Nat, _ = n from fun n => wf.2.2.2.2.2.2.2.2.2.2.2.2.2.1 (Int.ofNat n)), (show _ = (0 : Nat) from wf.2.2.2.2.2.2.2.2.2.2.2.2.2.1 0), wpa, (show ∀ n : Nat, _ = n from fun n => wfa.2.2.2.2.2.2.2.2.2.2.2.2.2.1 (Int.ofNat n)), (show _ = (0 : Nat) from wfa.2.2.2.2.2.2.2.2.2.2.2.2.2.1 0), getL, takeL, dropL, TK.isAgg, reduceIte])
        exact hR true _ (iffT ⟨rfl, rfl, rfl, v, rfl, i2⟩)
    · repeat' first | (with_reducible refine And.intro ?_ ?_) | intro c9 | (refine Later.mk ?_; cbv; try simp only [wp, (show ∀ n : Nat, _ = n from fun n => wf.2.2.2.2.2.2.2.2.2.2.2.2.2.1 (Int.ofNat n)), (show _ = (0 : Nat) from wf.2.2.2.2.2.2.2.2.2.2.2.2.2.1 0), getL, takeL, dropL, TK.isAgg, reduceIte])
      exact hR false _ (iffF fun h => v h.2.2.2.1)
set_option maxHeartbeats 4000000 in
theorem comparedA (Off : Int → Int → Nat → Prop) (hoff : ∀ op n s k C N W Q m G (i : Nat), m < 2 ^ 62 → i < m → VFun (P ()) 31 [tml op n s k C N W Q m G, .d (.int .i64 i)] (fun r => ∃ b : Bool, (b = true ↔ Off op n i) ∧ r = .d (.bool b))) (a : Tm) :
    Light a 400 → ∀ b, Light b 400 → VFun (P ()) 46 [tm a, tm b, .clo 31 [] []] (fun r => ∃ b' : Bool, (b' = true ↔ CmpT Off a b) ∧ r = .d (.bool b')) := by
  refine Tm.walk (P := fun a => Light a 400 → ∀ b, Light b 400 → VFun (P ()) 46 [tm a, tm b, .clo 31 [] []] (fun r => ∃ b' : Bool, (b' = true ↔ CmpT Off a b) ∧ r = .d (.bool b'))) ?_ a
  clear a
  intro op n s k C N W Q m ok K G hG e ih hl b
  refine Tm.walk (P := fun b => Light b 400 → VFun (P ()) 46 [tm (.nd op n s k C N W Q m ok K), tm b, .clo 31 [] []] (fun r => ∃ b' : Bool, (b' = true ↔ CmpT Off (.nd op n s k C N W Q m ok K) b) ∧ r = .d (.bool b'))) ?_ b
  clear b
  intro op' n' s' k' C' N' W' Q' m' ok' K' G' hG' e' _ hl'
  obtain ⟨l1, l2, l3, l4⟩ := hl.kid
  obtain ⟨l1', l2', l3', l4'⟩ := hl'.kid
  rw [e, e', CmpT_nd]
  clear e e' hl hl'
  refine VCalls.pureC (R1 := fun r H => ∃ b' : Bool, (b' = true ↔ op = op' ∧ n = n' ∧ s = s' ∧ SameLs k k' C C' N N' W Q W' Q' ∧ m = m' ∧ ∀ i, i < m → Off op n i ∨ CmpT Off (K i) (K' i)) ∧ r = .d (.bool b')) ?_ rfl rfl fun r H h => by
    obtain ⟨x, h1, rfl⟩ := h
    exact ⟨_, .keep _ (.d _), x, h1, rfl⟩
  have hls : VFun (P ()) 77 [.d (.sl k 2 (lsF C N W Q)), .d (.sl k' 2 (lsF C' N' W' Q')), .clo 78 [] []] (fun r => ∃ b : Bool, (b = true ↔ SameLs k k' C C' N N' W Q W' Q') ∧ r = .d (.bool b)) :=
    (eqFunc k k' C C' N N' W Q W' Q' (by omega) (by omega) (fun i hi => by have := l3 i hi; omega) (fun i hi => by have := l3' i hi; omega)).pureC rfl rfl fun r H h => by
      obtain ⟨x, h1, rfl⟩ := h
      exact ⟨_, .keep _ (.d _), x, h1, rfl⟩
  refine VCalls_of_Wl (Tf := fun {_} _ => fzT [3, 4] (T ())) (fun {_} => tabOk.frz [3, 4]) [(6, upF 0 20)] 400 Tryd.func46 rfl (fun {_} => by kernel_rfl) (Nat.le_of_ble_eq_true rfl) @fun ⟨_, _, _, _, _, _, _, _, _, _, _, _, _, _, _, _, _, _, _, _, _, _, _, _, _, _, _, _, _, _, _, _, _, _, _, _, _, _, wp, wf⟩ nH R hnH hR => ?_
  subst hnH
  cbv
  try simp only [wp, (show ∀ n : Nat, _ = n from fun n => wf.2.2.2.2.2.2.2.2.2.2.2.2.2.1 (Int.ofNat n)), getL, takeL, dropL, TK.isAgg, reduceIte]
  replace hR := fun b H h => hR (.d (.bool b)) H ⟨b, h, rfl⟩
  repeat' first | (with_reducible refine And.intro ?_ ?_) | intro c9 | (refine Later.mk ?_; cbv; try simp only [wp, (show ∀ n : Nat, _ = n from fun n => wf.2.2.2.2.2.2.2.2.2.2.2.2.2.1 (Int.ofNat n)), (show _ = (0 : Nat) from wf.2.2.2.2.2.2.2.2.2.2.2.2.2.1 0), getL, takeL, dropL, TK.isAgg, reduceIte])
  · exact hR false _ (iffF fun h => by
      have h1 := h.1
      first | exact absurd h1 (by assumption) | exact absurd h1 (by (try simp only [wf, nc, nc', Int.toNat_natCast, bsz, ByteArray.size_append, List.length_cons, List.length_nil] at *); (try simp (disch := omega) only [w64, w32, wu8] at *); first | done | omega))
  · exact hR false _ (iffF fun h => by
      have h1 := h.2.1
      first | exact absurd h1 (by assumption) | exact absurd h1 (by (try simp only [wf, nc, nc', Int.toNat_natCast, bsz, ByteArray.size_append, List.length_cons, List.length_nil] at *); (try simp (disch := omega) only [w64, w32, wu8] at *); first | done | omega))
  · exact hR false _ (iffF fun h => absurd h.2.2.1 (by assumption))
  · exact hR false _ (iffF fun h => by
      have h1 := h.2.2.2.2.1
      exact absurd h1 (by (try simp only [wf, nc, nc', Int.toNat_natCast, bsz, ByteArray.size_append, List.length_cons, List.length_nil] at *); (try simp (disch := omega) only [w64, w32, wu8] at *); first | done | omega))
  · obtain rfl : op = op' := by assumption
    obtain rfl : n = n' := by assumption
    obtain rfl : s = s' := by assumption
    obtain rfl : m = m' := (by (try simp only [wf, nc, nc', Int.toNat_natCast, bsz, ByteArray.size_append, List.length_cons, List.length_nil] at *); (try simp (disch := omega) only [w64, w32, wu8] at *); first | done | omega)
    refine hls.call ?_
    rintro _ ⟨b, hb, rfl⟩
    rcases hb.dich with ⟨rfl, v⟩ | ⟨rfl, v⟩ <;> clear hb <;> (cbv; try simp only [wp, (show ∀ n : Nat, _ = n from fun n => wf.2.2.2.2.2.2.2.2.2.2.2.2.2.1 (Int.ofNat n)), (show _ = (0 : Nat) from wf.2.2.2.2.2.2.2.2.2.2.2.2.2.1 0), getL, takeL, dropL, TK.isAgg, reduceIte])
    · repeat' first | (with_reducible refine And.intro ?_ ?_) | intro c9 | (refine Later.mk ?_; cbv; try simp only [wp, (show ∀ n : Nat, _ = n from fun n => wf.2.2.2.2.2.2.2.2.2.2.2.2.2.1 (Int.ofNat n)), (show _ = (0 : Nat) from wf.2.2.2.2.2.2.2.2.2.2.2.2.2.1 0), getL, takeL, dropL, TK.isAgg, reduceIte])
      refine loopL (Tf := fun {_} _ => fzT [3, 4] (T ())) (fun {_} => tabOk.frz [3, 4]) [(6, upF 0 20)] 400 (fun i : Nat => ⟨[.undef, .undef, .clo 31 [] [], .iptr (fun x j => getL [.int .i64 op, .int .i64 n, .str s, .sl k 2 (lsF C N W Q), .sl m 5 G] j .nilp) 0 0 5, .iptr (fun x j => getL [.int .i64 op, .int .i64 n, .str s, .sl k' 2 (lsF C' N' W' Q'), .sl m 5 G'] j .nilp) 0 0 5, .undef, .d (.bool false), .undef, .undef, .undef, .undef, .undef, .undef, .undef, .undef, .undef, .undef, .undef, .undef, .undef, .undef, .undef, .undef, .undef, .undef, .undef, .undef, .undef, .undef, .undef, .undef, .undef, .undef, .undef, .undef, .undef, .undef, .undef, .undef, .undef, .undef, .undef, .undef, .undef, .undef, .undef, .d (.int .i64 m), .d (.int .i64 i), .undef, .undef, .undef, .undef, .undef, .undef, .undef, .undef, .undef, .undef, .undef, .undef, .undef, .undef, .undef, .undef, .undef, .undef, .undef, .undef, .undef, .undef, .undef], []⟩) (fun i => m - i) (fun i => i ≤ m ∧ ∀ j, j < i → Off op n j ∨ CmpT Off (K j) (K' j)) 0 ⟨Nat.zero_le _, fun j hj => absurd hj (Nat.not_lt_zero _)⟩ (fun {_} => by kernel_rfl) ?_ (fun i => by kernel_rfl) @fun ⟨_, _, _, _, _, _, _, _, _, _, _, _, _, _, _, _, _, _, _, _, _, _, _, _, _, _, _, _, _, _, _, _, _, _, _, _, _, _, wpa, wfa⟩ i Bk hi hBk => ?_
      · ((cbv; try simp only [wf, exD, exL, exT, exB, exA, leLs, leL_d, leL_undef, leL_nils, leA_nils, deq_refl, deq_int, deq_bool, deq_str, and_true, true_and, AObj.iter.injEq, nc, nc']; try simp (disch := omega) only [w64, w32, wu8]); first | done | rfl | omega | (simp; done) | (simp; omega) | skip)
      obtain ⟨i1, i2⟩ := hi
      (cbv; try simp only [wp, (show ∀ n : Nat, _ = n from fun n => wf.2.2.2.2.2.2.2.2.2.2.2.2.2.1 (Int.ofNat n)), (show _ = (0 : Nat) from wf.2.2.2.2.2.2.2.2.2.2.2.2.2.1 0), wpa, (show ∀ n : Nat, _ = n from fun n => wfa.2.2.2.2.2.2.2.2.2.2.2.2.2.1 (Int.ofNat n)), (show _ = (0 : Nat) from wfa.2.2.2.2.2.2.2.2.2.2.2.2.2.1 0), getL, takeL, dropL, TK.isAgg, reduceIte])
      refine ⟨fun e1 => ?_, fun e1 => ?_⟩
      · have e1 : i < m := (by (try simp only [wf, wfa, nc, nc', Int.toNat_natCast, bsz, ByteArray.size_append, List.length_cons, List.length_nil] at *); (try simp (disch := omega) only [w64, w32, wu8] at *); first | done | omega)
        have ho := hoff op n s k C N W Q m G i (by omega) e1
        have ihi := ih i e1 (l4 i e1) (K' i) (l4' i e1)
        rw [hG i e1, hG' i e1] at ihi
        have step : Off op n i ∨ CmpT Off (K i) (K' i) → ∀ j, j < i + 1 → Off op n j ∨ CmpT Off (K j) (K' j) := fun v j hj => by
          by_cases ej : j = i
          · subst ej; exact v
          · exact i2 j (by omega)
        repeat' first | (with_reducible refine And.intro ?_ ?_) | intro c9 | (refine Later.mk ?_; cbv; try simp only [wp, (show ∀ n : Nat, _ = n from fun n => wf.2.2.2.2.2.2.2.2.2.2.2.2.2.1 (Int.ofNat n)), (show _ = (0 : Nat) from wf.2.2.2.2.2.2.2.2.2.2.2.2.2.1 0), wpa, (show ∀ n : Nat, _ = n from fun n => wfa.2.2.2.2.2.2.2.2.2.2.2.2.2.1 (Int.ofNat n)), (show _ = (0 : Nat) from wfa.2.2.2.2.2.2.2.2.2.2.2.2.2.1 0), getL, takeL, dropL, TK.isAgg, reduceIte])
        all_goals first | exact (by (try simp only [wf, wfa, nc, nc', Int.toNat_natCast, bsz, ByteArray.size_append, List.length_cons, List.length_nil] at *); (try simp (disch := omega) only [w64, w32, wu8] at *); first | done | omega) | skip
        refine ho.call ?_
        rintro _ ⟨b, hb, rfl⟩
        rcases hb.dich with ⟨rfl, u⟩ | ⟨rfl, u⟩ <;> clear hb <;> (cbv; try simp only [wp, (show ∀ n : Nat, _ = n from fun n => wf.2.2.2.2.2.2.2.2.2.2.2.2.2.1 (Int.ofNat n)), (show _ = (0 : Nat) from wf.2.2.2.2.2.2.2.2.2.2.2.2.2.1 0), wpa, (show ∀ n : Nat, _ = n from fun n => wfa.2.2.2.2.2.2.2.2.2.2.2.2.2.1 (Int.ofNat n)), (show _ = (0 : Nat) from wfa.2.2.2.2.2.2.2.2.2.2.2.2.2.1 0), getL, takeL, dropL, TK.isAgg, reduceIte])
        · repeat' first | (with_reducible refine And.intro ?_ ?_) | intro c9 | (refine Later.mk ?_; cbv; try simp only [wp, (show ∀ n : Nat, _ = n from fun n => wf.2.2.2.2.2.2.2.2.2.2.2.2.2.1 (Int.ofNat n)), (show _ = (0 : Nat) from wf.2.2.2.2.2.2.2.2.2.2.2.2.2.1 0), wpa, (show ∀ n : Nat, _ = n from fun n => wfa.2.2.2.2.2.2.2.2.2.2.2.2.2.1 (Int.ofNat n)), (show _ = (0 : Nat) from wfa.2.2.2.2.2.2.2.2.2.2.2.2.2.1 0), getL, takeL, dropL, TK.isAgg, reduceIte])
          refine hBk (i + 1) _ (by omega) ⟨by omega, step (.inl u)⟩ ?_
          ((cbv; try simp only [wf, wfa, exD, exL, exT, exB, exA, leLs, leL_d, leL_undef, leL_nils, leA_nils, deq_refl, deq_int, deq_bool, deq_str, and_true, true_and, AObj.iter.injEq, nc, nc']; try simp (disch := omega) only [w64, w32, wu8]); first | done | rfl | omega | (simp; done) | (simp; omega) | skip)
        · repeat' first | (with_reducible refine And.intro ?_ ?_) | intro c9 | (refine Later.mk ?_; cbv; try simp only [wp, (show ∀ n : Nat, _ = n from fun n => wf.2.2.2.2.2.2.2.2.2.2.2.2.2.1 (Int.ofNat n)), (show _ = (0 : Nat) from wf.2.2.2.2.2.2.2.2.2.2.2.2.2.1 0), wpa, (show ∀ n : Nat, _ = n from fun n => wfa.2.2.2.2.2.2.2.2.2.2.2.2.2.1 (Int.ofNat n)), (show _ = (0 : Nat) from wfa.2.2.2.2.2.2.2.2.2.2.2.2.2.1 0), getL, takeL, dropL, TK.isAgg, reduceIte])
          all_goals first | exact (by (try simp only [wf, wfa, nc, nc', Int.toNat_natCast, bsz, ByteArray.size_append, List.length_cons, List.length_nil] at *); (try simp (disch := omega) only [w64, w32, wu8] at *); first | done | omega) | skip
          refine ihi.call ?_
          rintro _ ⟨b, hb, rfl⟩
          rcases hb.dich with ⟨rfl, z⟩ | ⟨rfl, z⟩ <;> clear hb <;> (cbv; try simp only [wp, (show ∀ n : Nat, _ = n from fun n => wf.2.2.2.2.2.2.2.2.2.2.2.2.2.1 (Int.ofNat n)), (show _ = (0 : Nat) from wf.2.2.2.2.2.2.2.2.2.2.2.2.2.1 0), wpa, (show ∀ n : Nat, _ = n from fun n => wfa.2.2.2.2.2.2.2.2.2.2.2.2.2.1 (Int.ofNat n)), (show _ = (0 : Nat) from wfa.2.2.2.2.2.2.2.2.2.2.2.2.2.1 0), getL, takeL, dropL, TK.isAgg, reduceIte])
          · repeat' first | (with_reducible refine And.intro ?_ ?_) | intro c9 | (refine Later.mk ?_; cbv; try simp only [wp, (show ∀ n : Nat, _ = n from fun n => wf.2.2.2.2.2.2.2.2.2.2.2.2.2.1 (Int.ofNat n)), (show _ = (0 : Nat) from wf.2.2.2.2.2.2.2.2.2.2.2.2.2.1 0), wpa, (show ∀ n : Nat, _ = n from fun n => wfa.2.2.2.2.2.2.2.2.2.2.2.2.2.1 (Int.ofNat n)), (show _ = (0 : Nat) from wfa.2.2.2.2.2.2.2.2.2.2.2.2.2.1 0), getL, takeL, dropL, TK.isAgg, reduceIte])
            refine hBk (i + 1) _ (by omega) ⟨by omega, step (.inr z)⟩ ?_
            ((cbv; try simp only [wf, wfa, exD, exL, exT, exB, exA, leLs, leL_d, leL_undef, leL_nils, leA_nils, deq_refl, deq_int, deq_bool, deq_str, and_true, true_and, AObj.iter.injEq, nc, nc']; try simp (disch := omega) only [w64, w32, wu8]); first | done | rfl | omega | (simp; done) | (simp; omega) | skip)
          · repeat' first | (with_reducible refine And.intro ?_ ?_) | intro c9 | (refine Later.mk ?_; cbv; try simp only [wp, (show ∀ n : Nat, _ = n from fun n => wf.2.2.2.2.2.2.2.2.2.2.2.2.2.1 (Int.ofNat n)), (show _ = (0 : Nat) from wf.2.2.2.2.2.2.2.2.2.2.2.2.2.1 0), wpa, (show ∀ n : Nat, _ = n from fun n => wfa.2.2.2.2.2.2.2.2.2.2.2.2.2.1 (Int.ofNat n)), (show _ = (0 : Nat) from wfa.2.2.2.2.2.2.2.2.2.2.2.2.2.1 0), getL, takeL, dropL, TK.isAgg, reduceIte])
            exact hR false _ (iffF fun h => (h.2.2.2.2.2 i e1).elim u z)
      · obtain rfl : i = m := (by (try simp only [wf, wfa, nc, nc', Int.toNat_natCast, bsz, ByteArray.size_append, List.length_cons, List.length_nil] at *); (try simp (disch := omega) only [w64, w32, wu8] at *); first | done | omega)
        (refine Later.mk ?_; cbv; try simp only [wp, (show ∀ n : Nat, _ = n from fun n => wf.2.2.2.2.2.2.2.2.2.2.2.2.2.1 (Int.ofNat n)), (show _ = (0 : Nat) from wf.2.2.2.2.2.2.2.2.2.2.2.2.2.1 0), wpa, (show ∀ n : Nat, _ = n from fun n => wfa.2.2.2.2.2.2.2.2.2.2.2.2.2.1 (Int.ofNat n)), (show _ = (0 : Nat) from wfa.2.2.2.2.2.2.2.2.2.2.2.2.2.1 0), getL, takeL, dropL, TK.isAgg, reduceIte])
        exact hR true _ (iffT ⟨rfl, rfl, rfl, v, rfl, i2⟩)
    · repeat' first | (with_reducible refine And.intro ?_ ?_) | intro c9 | (refine Later.mk ?_; cbv; try simp only [wp, (show ∀ n : Nat, _ = n from fun n => wf.2.2.2.2.2.2.2.2.2.2.2.2.2.1 (Int.ofNat n)), (show _ = (0 : Nat) from wf.2.2.2.2.2.2.2.2.2.2.2.2.2.1 0), getL, takeL, dropL, TK.isAgg, reduceIte])
      exact hR false _ (iffF fun h => v h.2.2.2.1)
theorem SameT (a b : Tm) (ha : Light a 400) (hb : Light b 400) : VFun (P ()) 20 [tm a, tm b] (fun r => ∃ x : Bool, (x = true ↔ CmpT (fun _ _ _ => False) a b) ∧ r = .d (.bool x)) := by
  have h := comparedS (fun _ _ _ => False) (fun op n s k C N W Q m G i _ _ => sameOff op n s k C N W Q m G i) a ha b hb
  unfold tm at h ⊢
  obtain ⟨f, hf⟩ : ∃ f, f = tmD a := ⟨_, rfl⟩
  obtain ⟨g, hg⟩ : ∃ g, g = tmD b := ⟨_, rfl⟩
  rw [← hf, ← hg] at h ⊢
  refine vfunO (Tf := fun {_} _ => fzT [2, 3] (T ())) (fun {_} => tabOk.frz [2, 3]) [] 400 Tryd.func20 rfl (fun {_} => by kernel_rfl) rfl (Nat.le_of_ble_eq_true rfl) @fun ⟨_, _, _, _, _, _, _, _, _, _, _, _, _, _, _, _, _, _, _, _, _, _, _, _, _, _, _, _, _, _, _, _, _, _, _, _, _, _, wp, wf⟩ R hR => ?_
  cbv
  try simp only [wp, (show ∀ n : Nat, _ = n from fun n => wf.2.2.2.2.2.2.2.2.2.2.2.2.2.1 (Int.ofNat n)), getL, takeL, dropL, TK.isAgg, reduceIte]
  refine h.call ?_
  rintro _ ⟨x, hx, rfl⟩
  (cbv; try simp only [wp, (show ∀ n : Nat, _ = n from fun n => wf.2.2.2.2.2.2.2.2.2.2.2.2.2.1 (Int.ofNat n)), (show _ = (0 : Nat) from wf.2.2.2.2.2.2.2.2.2.2.2.2.2.1 0), getL, takeL, dropL, TK.isAgg, reduceIte])
  exact hR _ _ _ (.d _) ⟨x, hx, rfl⟩
theorem AlikeT (a b : Tm) (ha : Light a 400) (hb : Light b 400) : VFun (P ()) 22 [tm a, tm b] (fun r => ∃ x : Bool, (x = true ↔ CmpT PrfP a b) ∧ r = .d (.bool x)) := by
  have h := comparedA PrfP (fun op n s k C N W Q m G i h1 h2 => isProofT op n s k C N W Q m G i h1 h2) a ha b hb
  unfold tm at h ⊢
  obtain ⟨f, hf⟩ : ∃ f, f = tmD a := ⟨_, rfl⟩
  obtain ⟨g, hg⟩ : ∃ g, g = tmD b := ⟨_, rfl⟩
  rw [← hf, ← hg] at h ⊢
  refine vfunO (Tf := fun {_} _ => fzT [2, 3] (T ())) (fun {_} => tabOk.frz [2, 3]) [] 400 Tryd.func22 rfl (fun {_} => by kernel_rfl) rfl (Nat.le_of_ble_eq_true rfl) @fun ⟨_, _, _, _, _, _, _, _, _, _, _, _, _, _, _, _, _, _, _, _, _, _, _, _, _, _, _, _, _, _, _, _, _, _, _, _, _, _, wp, wf⟩ R hR => ?_
  cbv
  try simp only [wp, (show ∀ n : Nat, _ = n from fun n => wf.2.2.2.2.2.2.2.2.2.2.2.2.2.1 (Int.ofNat n)), getL, takeL, dropL, TK.isAgg, reduceIte]
  refine h.call ?_
  rintro _ ⟨x, hx, rfl⟩
  (cbv; try simp only [wp, (show ∀ n : Nat, _ = n from fun n => wf.2.2.2.2.2.2.2.2.2.2.2.2.2.1 (Int.ofNat n)), (show _ = (0 : Nat) from wf.2.2.2.2.2.2.2.2.2.2.2.2.2.1 0), getL, takeL, dropL, TK.isAgg, reduceIte])
  exact hR _ _ _ (.d _) ⟨x, hx, rfl⟩
end Go.VM

namespace Go.VM
open Go.Proofs Go
set_option maxRecDepth 100000
set_option linter.unusedVariables false
set_option linter.unusedSimpArgs false
theorem nodeEq (op n : Int) (s : ByteArray) (k : Nat) (C : Nat → Int) (N : Nat → Nat) (W Q : Nat → Nat → Int) (m : Nat) (G : Nat → Nat → D) (op' n' : Int) (s' : ByteArray) (k' : Nat) (C' : Nat → Int) (N' : Nat → Nat) (W' Q' : Nat → Nat → Int) (m' : Nat) (G' : Nat → Nat → D)
    (hk : k < 2 ^ 62) (hk' : k' < 2 ^ 62) (hm : m < 2 ^ 62) (hm' : m' < 2 ^ 62) (hN : ∀ i, i < k → N i < 2 ^ 61) (hN' : ∀ i, i < k' → N' i < 2 ^ 61) :
    VFun (P ()) 48 [tml op n s k C N W Q m G, tml op' n' s' k' C' N' W' Q' m' G'] (fun r => ∃ b : Bool, (b = true ↔ op = op' ∧ n = n' ∧ s = s' ∧ SameLs k k' C C' N N' W Q W' Q' ∧ m = m') ∧ r = .d (.bool b)) := by
  have hls := sameLevels k k' C C' N N' W Q W' Q' hk hk' hN hN'
  refine vfunL (Tf := fun {_} _ => fzT [2, 3] (T ())) (fun {_} => tabOk.frz [2, 3]) [] 400 Tryd.func48 rfl (fun {_} => by kernel_rfl) rfl (Nat.le_of_ble_eq_true rfl) @fun ⟨_, _, _, _, _, _, _, _, _, _, _, _, _, _, _, _, _, _, _, _, _, _, _, _, _, _, _, _, _, _, _, _, _, _, _, _, _, _, wp, wf⟩ R hR => ?_
  cbv
  try simp only [wp, (show ∀ n : Nat, _ = n from fun n => wf.2.2.2.2.2.2.2.2.2.2.2.2.2.1 (Int.ofNat n)), getL, takeL, dropL, TK.isAgg, reduceIte]
  replace hR := fun b H h => hR _ H (.d (.bool b)) (.d _) ⟨b, h, rfl⟩
  repeat' first | (with_reducible refine And.intro ?_ ?_) | intro c9 | (refine Later.mk ?_; cbv; try simp only [wp, (show ∀ n : Nat, _ = n from fun n => wf.2.2.2.2.2.2.2.2.2.2.2.2.2.1 (Int.ofNat n)), (show _ = (0 : Nat) from wf.2.2.2.2.2.2.2.2.2.2.2.2.2.1 0), getL, takeL, dropL, TK.isAgg, reduceIte])
  · refine hls.call ?_
    rintro _ ⟨b, hb, rfl⟩
    rcases hb.dich with ⟨rfl, v⟩ | ⟨rfl, v⟩ <;> clear hb <;> (cbv; try simp only [wp, (show ∀ n : Nat, _ = n from fun n => wf.2.2.2.2.2.2.2.2.2.2.2.2.2.1 (Int.ofNat n)), (show _ = (0 : Nat) from wf.2.2.2.2.2.2.2.2.2.2.2.2.2.1 0), getL, takeL, dropL, TK.isAgg, reduceIte])
    · repeat' first | (with_reducible refine And.intro ?_ ?_) | intro c9 | (refine Later.mk ?_; cbv; try simp only [wp, (show ∀ n : Nat, _ = n from fun n => wf.2.2.2.2.2.2.2.2.2.2.2.2.2.1 (Int.ofNat n)), (show _ = (0 : Nat) from wf.2.2.2.2.2.2.2.2.2.2.2.2.2.1 0), getL, takeL, dropL, TK.isAgg, reduceIte])
      · exact hR true _ (iffT ⟨(by (try simp only [wf, nc, nc', Int.toNat_natCast, bsz, ByteArray.size_append, List.length_cons, List.length_nil] at *); (try simp (disch := omega) only [w64, w32, wu8] at *); first | done | omega), (by (try simp only [wf, nc, nc', Int.toNat_natCast, bsz, ByteArray.size_append, List.length_cons, List.length_nil] at *); (try simp (disch := omega) only [w64, w32, wu8] at *); first | done | omega), by assumption, v, (by (try simp only [wf, nc, nc', Int.toNat_natCast, bsz, ByteArray.size_append, List.length_cons, List.length_nil] at *); (try simp (disch := omega) only [w64, w32, wu8] at *); first | done | omega)⟩)
      · exact hR false _ (iffF fun h => by
          have h1 := h.2.2.2.2
          exact absurd h1 (by (try simp only [wf, nc, nc', Int.toNat_natCast, bsz, ByteArray.size_append, List.length_cons, List.length_nil] at *); (try simp (disch := omega) only [w64, w32, wu8] at *); first | done | omega))
    · repeat' first | (with_reducible refine And.intro ?_ ?_) | intro c9 | (refine Later.mk ?_; cbv; try simp only [wp, (show ∀ n : Nat, _ = n from fun n => wf.2.2.2.2.2.2.2.2.2.2.2.2.2.1 (Int.ofNat n)), (show _ = (0 : Nat) from wf.2.2.2.2.2.2.2.2.2.2.2.2.2.1 0), getL, takeL, dropL, TK.isAgg, reduceIte])
      exact hR false _ (iffF fun h => v h.2.2.2.1)
  · exact hR false _ (iffF fun h => absurd h.2.2.1 (by assumption))
  · exact hR false _ (iffF fun h => absurd h.2.1 (by assumption))
  · exact hR false _ (iffF fun h => absurd h.1 (by assumption))
set_option maxHeartbeats 4000000 in
theorem RSameT (a : Tm) : Light a 400 → ∀ b, Light b 400 → VFun (P ()) 21 [tm a, tm b] (fun r => ∃ b' : Bool, (b' = true ↔ CmpT (fun _ _ _ => False) a b) ∧ r = .d (.bool b')) := by
  refine Tm.walk (P := fun a => Light a 400 → ∀ b, Light b 400 → VFun (P ()) 21 [tm a, tm b] (fun r => ∃ b' : Bool, (b' = true ↔ CmpT (fun _ _ _ => False) a b) ∧ r = .d (.bool b'))) ?_ a
  clear a
  intro op n s k C N W Q m ok K G hG e ih hl b
  refine Tm.walk (P := fun b => Light b 400 → VFun (P ()) 21 [tm (.nd op n s k C N W Q m ok K), tm b] (fun r => ∃ b' : Bool, (b' = true ↔ CmpT (fun _ _ _ => False) (.nd op n s k C N W Q m ok K) b) ∧ r = .d (.bool b'))) ?_ b
  clear b
  intro op' n' s' k' C' N' W' Q' m' ok' K' G' hG' e' _ hl'
  obtain ⟨l1, l2, l3, l4⟩ := hl.kid
  obtain ⟨l1', l2', l3', l4'⟩ := hl'.kid
  rw [e, e', CmpT_nd]
  clear e e' hl hl'
  have hn := nodeEq op n s k C N W Q m G op' n' s' k' C' N' W' Q' m' G' (by omega) (by omega) (by omega) (by omega) (fun i hi => by have := l3 i hi; omega) (fun i hi => by have := l3' i hi; omega)
  refine vfunO (Tf := fun {_} _ => fzT [2, 3] (T ())) (fun {_} => tabOk.frz [2, 3]) [(6, upF 0 12)] 400 Tryd.func21 rfl (fun {_} => by kernel_rfl) rfl (Nat.le_of_ble_eq_true rfl) @fun ⟨_, _, _, _, _, _, _, _, _, _, _, _, _, _, _, _, _, _, _, _, _, _, _, _, _, _, _, _, _, _, _, _, _, _, _, _, _, _, wp, wf⟩ R hR => ?_
  cbv
  try simp only [wp, (show ∀ n : Nat, _ = n from fun n => wf.2.2.2.2.2.2.2.2.2.2.2.2.2.1 (Int.ofNat n)), getL, takeL, dropL, TK.isAgg, reduceIte]
  replace hR := fun b H h => hR _ H (.d (.bool b)) (.d _) ⟨b, h, rfl⟩
  refine hn.call ?_
  rintro _ ⟨b, hb, rfl⟩
  rcases hb.dich with ⟨rfl, v⟩ | ⟨rfl, v⟩ <;> clear hb <;> (cbv; try simp only [wp, (show ∀ n : Nat, _ = n from fun n => wf.2.2.2.2.2.2.2.2.2.2.2.2.2.1 (Int.ofNat n)), (show _ = (0 : Nat) from wf.2.2.2.2.2.2.2.2.2.2.2.2.2.1 0), getL, takeL, dropL, TK.isAgg, reduceIte]) <;> (refine Later.mk ?_; cbv; try simp only [wp, (show ∀ n : Nat, _ = n from fun n => wf.2.2.2.2.2.2.2.2.2.2.2.2.2.1 (Int.ofNat n)), (show _ = (0 : Nat) from wf.2.2.2.2.2.2.2.2.2.2.2.2.2.1 0), getL, takeL, dropL, TK.isAgg, reduceIte])
  · obtain ⟨rfl, rfl, rfl, v, rfl⟩ := v
    refine loopO (Tf := fun {_} _ => fzT [2, 3] (T ())) (fun {_} => tabOk.frz [2, 3]) [(6, upF 0 12)] 400 (fun i : Nat => ⟨[.undef, .undef, .iptr (fun x j => getL [.int .i64 op, .int .i64 n, .str s, .sl k 2 (lsF C N W Q), .sl m 5 G] j .nilp) 0 0 5, .iptr (fun x j => getL [.int .i64 op, .int .i64 n, .str s, .sl k' 2 (lsF C' N' W' Q'), .sl m 5 G'] j .nilp) 0 0 5, .d (.bool false), .d (.int .i64 i), .undef, .undef, .undef, .undef, .undef, .undef, .undef, .undef, .undef, .undef, .undef, .undef, .undef, .undef, .undef, .undef, .undef, .undef, .undef, .undef, .undef, .undef, .undef], []⟩) (fun i => m - i) (fun i => i ≤ m ∧ ∀ j, j < i → False ∨ CmpT (fun _ _ _ => False) (K j) (K' j)) 0 ⟨Nat.zero_le _, fun j hj => absurd hj (Nat.not_lt_zero _)⟩ (fun {_} => by kernel_rfl) ?_ (fun i => by kernel_rfl) @fun ⟨_, _, _, _, _, _, _, _, _, _, _, _, _, _, _, _, _, _, _, _, _, _, _, _, _, _, _, _, _, _, _, _, _, _, _, _, _, _, wpa, wfa⟩ i Bk hi hBk => ?_
    · ((cbv; try simp only [wf, exD, exL, exT, exB, exA, leLs, leL_d, leL_undef, leL_nils, leA_nils, deq_refl, deq_int, deq_bool, deq_str, and_true, true_and, AObj.iter.injEq, nc, nc']; try simp (disch := omega) only [w64, w32, wu8]); first | done | rfl | omega | (simp; done) | (simp; omega) | skip)
    obtain ⟨i1, i2⟩ := hi
    (cbv; try simp only [wp, (show ∀ n : Nat, _ = n from fun n => wf.2.2.2.2.2.2.2.2.2.2.2.2.2.1 (Int.ofNat n)), (show _ = (0 : Nat) from wf.2.2.2.2.2.2.2.2.2.2.2.2.2.1 0), wpa, (show ∀ n : Nat, _ = n from fun n => wfa.2.2.2.2.2.2.2.2.2.2.2.2.2.1 (Int.ofNat n)), (show _ = (0 : Nat) from wfa.2.2.2.2.2.2.2.2.2.2.2.2.2.1 0), getL, takeL, dropL, TK.isAgg, reduceIte])
    refine ⟨fun e1 => ?_, fun e1 => ?_⟩
    · have e1 : i < m := (by (try simp only [wf, wfa, nc, nc', Int.toNat_natCast, bsz, ByteArray.size_append, List.length_cons, List.length_nil] at *); (try simp (disch := omega) only [w64, w32, wu8] at *); first | done | omega)
      have ihi := ih i e1 (l4 i e1) (K' i) (l4' i e1)
      rw [hG i e1, hG' i e1] at ihi
      have step : False ∨ CmpT (fun _ _ _ => False) (K i) (K' i) → ∀ j, j < i + 1 → False ∨ CmpT (fun _ _ _ => False) (K j) (K' j) := fun v j hj => by
        by_cases ej : j = i
        · subst ej; exact v
        · exact i2 j (by omega)
      repeat' first | (with_reducible refine And.intro ?_ ?_) | intro c9 | (refine Later.mk ?_; cbv; try simp only [wp, (show ∀ n : Nat, _ = n from fun n => wf.2.2.2.2.2.2.2.2.2.2.2.2.2.1 (Int.ofNat n)), (show _ = (0 : Nat) from wf.2.2.2.2.2.2.2.2.2.2.2.2.2.1 0), wpa, (show ∀ n : Nat, _ = n from fun n => wfa.2.2.2.2.2.2.2.2.2.2.2.2.2.1 (Int.ofNat n)), (show _ = (0 : Nat) from wfa.2.2.2.2.2.2.2.2.2.2.2.2.2.1 0), getL, takeL, dropL, TK.isAgg, reduceIte])
      all_goals first | exact (by (try simp only [wf, wfa, nc, nc', Int.toNat_natCast, bsz, ByteArray.size_append, List.length_cons, List.length_nil] at *); (try simp (disch := omega) only [w64, w32, wu8] at *); first | done | omega) | skip
      refine ihi.call ?_
      rintro _ ⟨b, hb, rfl⟩
      rcases hb.dich with ⟨rfl, z⟩ | ⟨rfl, z⟩ <;> clear hb <;> (cbv; try simp only [wp, (show ∀ n : Nat, _ = n from fun n => wf.2.2.2.2.2.2.2.2.2.2.2.2.2.1 (Int.ofNat n)), (show _ = (0 : Nat) from wf.2.2.2.2.2.2.2.2.2.2.2.2.2.1 0), wpa, (show ∀ n : Nat, _ = n from fun n => wfa.2.2.2.2.2.2.2.2.2.2.2.2.2.1 (Int.ofNat n)), (show _ = (0 : Nat) from wfa.2.2.2.2.2.2.2.2.2.2.2.2.2.1 0), getL, takeL, dropL, TK.isAgg, reduceIte])
      · repeat' first | (with_reducible refine And.intro ?_ ?_) | intro c9 | (refine Later.mk ?_; cbv; try simp only [wp, (show ∀ n : Nat, _ = n from fun n => wf.2.2.2.2.2.2.2.2.2.2.2.2.2.1 (Int.ofNat n)), (show _ = (0 : Nat) from wf.2.2.2.2.2.2.2.2.2.2.2.2.2.1 0), wpa, (show ∀ n : Nat, _ = n from fun n => wfa.2.2.2.2.2.2.2.2.2.2.2.2.2.1 (Int.ofNat n)), (show _ = (0 : Nat) from wfa.2.2.2.2.2.2.2.2.2.2.2.2.2.1 0), getL, takeL, dropL, TK.isAgg, reduceIte])
        refine hBk (i + 1) _ (by omega) ⟨by omega, step (.inr z)⟩ ?_
        ((cbv; try simp only [wf, wfa, exD, exL, exT, exB, exA, leLs, leL_d, leL_undef, leL_nils, leA_nils, deq_refl, deq_int, deq_bool, deq_str, and_true, true_and, AObj.iter.injEq, nc, nc']; try simp (disch := omega) only [w64, w32, wu8]); first | done | rfl | omega | (simp; done) | (simp; omega) | skip)
      · repeat' first | (with_reducible refine And.intro ?_ ?_) | intro c9 | (refine Later.mk ?_; cbv; try simp only [wp, (show ∀ n : Nat, _ = n from fun n => wf.2.2.2.2.2.2.2.2.2.2.2.2.2.1 (Int.ofNat n)), (show _ = (0 : Nat) from wf.2.2.2.2.2.2.2.2.2.2.2.2.2.1 0), wpa, (show ∀ n : Nat, _ = n from fun n => wfa.2.2.2.2.2.2.2.2.2.2.2.2.2.1 (Int.ofNat n)), (show _ = (0 : Nat) from wfa.2.2.2.2.2.2.2.2.2.2.2.2.2.1 0), getL, takeL, dropL, TK.isAgg, reduceIte])
        exact hR false _ (iffF fun h => (h.2.2.2.2.2 i e1).elim id z)
    · obtain rfl : i = m := (by (try simp only [wf, wfa, nc, nc', Int.toNat_natCast, bsz, ByteArray.size_append, List.length_cons, List.length_nil] at *); (try simp (disch := omega) only [w64, w32, wu8] at *); first | done | omega)
      (refine Later.mk ?_; cbv; try simp only [wp, (show ∀ n : Nat, _ = n from fun n => wf.2.2.2.2.2.2.2.2.2.2.2.2.2.1 (Int.ofNat n)), (show _ = (0 : Nat) from wf.2.2.2.2.2.2.2.2.2.2.2.2.2.1 0), wpa, (show ∀ n : Nat, _ = n from fun n => wfa.2.2.2.2.2.2.2.2.2.2.2.2.2.1 (Int.ofNat n)), (show _ = (0 : Nat) from wfa.2.2.2.2.2.2.2.2.2.2.2.2.2.1 0), getL, takeL, dropL, TK.isAgg, reduceIte])
      exact hR true _ (iffT ⟨rfl, rfl, rfl, v, rfl, i2⟩)
  · exact hR false _ (iffF fun h => v ⟨h.1, h.2.1, h.2.2.1, h.2.2.2.1, h.2.2.2.2.1⟩)
set_option maxHeartbeats 4000000 in
theorem RAlikeT (a : Tm) : Light a 400 → ∀ b, Light b 400 → VFun (P ()) 23 [tm a, tm b] (fun r => ∃ b' : Bool, (b' = true ↔ CmpT PrfP a b) ∧ r = .d (.bool b')) := by
  refine Tm.walk (P := fun a => Light a 400 → ∀ b, Light b 400 → VFun (P ()) 23 [tm a, tm b] (fun r => ∃ b' : Bool, (b' = true ↔ CmpT PrfP a b) ∧ r = .d (.bool b'))) ?_ a
  clear a
  intro op n s k C N W Q m ok K G hG e ih hl b
  refine Tm.walk (P := fun b => Light b 400 → VFun (P ()) 23 [tm (.nd op n s k C N W Q m ok K), tm b] (fun r => ∃ b' : Bool, (b' = true ↔ CmpT PrfP (.nd op n s k C N W Q m ok K) b) ∧ r = .d (.bool b'))) ?_ b
  clear b
  intro op' n' s' k' C' N' W' Q' m' ok' K' G' hG' e' _ hl'
  obtain ⟨l1, l2, l3, l4⟩ := hl.kid
  obtain ⟨l1', l2', l3', l4'⟩ := hl'.kid
  rw [e, e', CmpT_nd]
  clear e e' hl hl'
  have hn := nodeEq op n s k C N W Q m G op' n' s' k' C' N' W' Q' m' G' (by omega) (by omega) (by omega) (by omega) (fun i hi => by have := l3 i hi; omega) (fun i hi => by have := l3' i hi; omega)
  refine vfunO (Tf := fun {_} _ => fzT [2, 3] (T ())) (fun {_} => tabOk.frz [2, 3]) [(6, upF 0 18)] 400 Tryd.func23 rfl (fun {_} => by kernel_rfl) rfl (Nat.le_of_ble_eq_true rfl) @fun ⟨_, _, _, _, _, _, _, _, _, _, _, _, _, _, _, _, _, _, _, _, _, _, _, _, _, _, _, _, _, _, _, _, _, _, _, _, _, _, wp, wf⟩ R hR => ?_
  cbv
  try simp only [wp, (show ∀ n : Nat, _ = n from fun n => wf.2.2.2.2.2.2.2.2.2.2.2.2.2.1 (Int.ofNat n)), getL, takeL, dropL, TK.isAgg, reduceIte]
  replace hR := fun b H h => hR _ H (.d (.bool b)) (.d _) ⟨b, h, rfl⟩
  refine hn.call ?_
  rintro _ ⟨b, hb, rfl⟩
  rcases hb.dich with ⟨rfl, v⟩ | ⟨rfl, v⟩ <;> clear hb <;> (cbv; try simp only [wp, (show ∀ n : Nat, _ = n from fun n => wf.2.2.2.2.2.2.2.2.2.2.2.2.2.1 (Int.ofNat n)), (show _ = (0 : Nat) from wf.2.2.2.2.2.2.2.2.2.2.2.2.2.1 0), getL, takeL, dropL, TK.isAgg, reduceIte]) <;> (refine Later.mk ?_; cbv; try simp only [wp, (show ∀ n : Nat, _ = n from fun n => wf.2.2.2.2.2.2.2.2.2.2.2.2.2.1 (Int.ofNat n)), (show _ = (0 : Nat) from wf.2.2.2.2.2.2.2.2.2.2.2.2.2.1 0), getL, takeL, dropL, TK.isAgg, reduceIte])
  · obtain ⟨rfl, rfl, rfl, v, rfl⟩ := v
    refine loopO (Tf := fun {_} _ => fzT [2, 3] (T ())) (fun {_} => tabOk.frz [2, 3]) [(6, upF 0 18)] 400 (fun i : Nat => ⟨[.undef, .undef, .iptr (fun x j => getL [.int .i64 op, .int .i64 n, .str s, .sl k 2 (lsF C N W Q), .sl m 5 G] j .nilp) 0 0 5, .iptr (fun x j => getL [.int .i64 op, .int .i64 n, .str s, .sl k' 2 (lsF C' N' W' Q'), .sl m 5 G'] j .nilp) 0 0 5, .d (.bool false), .d (.int .i64 i), .undef, .undef, .undef, .undef, .undef, .undef, .undef, .undef, .undef, .undef, .undef, .undef, .undef, .undef, .undef, .undef, .undef, .undef, .undef, .undef, .undef, .undef, .undef, .undef, .undef, .undef, .undef, .undef, .undef], []⟩) (fun i => m - i) (fun i => i ≤ m ∧ ∀ j, j < i → PrfP op n j ∨ CmpT PrfP (K j) (K' j)) 0 ⟨Nat.zero_le _, fun j hj => absurd hj (Nat.not_lt_zero _)⟩ (fun {_} => by kernel_rfl) ?_ (fun i => by kernel_rfl) @fun ⟨_, _, _, _, _, _, _, _, _, _, _, _, _, _, _, _, _, _, _, _, _, _, _, _, _, _, _, _, _, _, _, _, _, _, _, _, _, _, wpa, wfa⟩ i Bk hi hBk => ?_
    · ((cbv; try simp only [wf, exD, exL, exT, exB, exA, leLs, leL_d, leL_undef, leL_nils, leA_nils, deq_refl, deq_int, deq_bool, deq_str, and_true, true_and, AObj.iter.injEq, nc, nc']; try simp (disch := omega) only [w64, w32, wu8]); first | done | rfl | omega | (simp; done) | (simp; omega) | skip)
    obtain ⟨i1, i2⟩ := hi
    (cbv; try simp only [wp, (show ∀ n : Nat, _ = n from fun n => wf.2.2.2.2.2.2.2.2.2.2.2.2.2.1 (Int.ofNat n)), (show _ = (0 : Nat) from wf.2.2.2.2.2.2.2.2.2.2.2.2.2.1 0), wpa, (show ∀ n : Nat, _ = n from fun n => wfa.2.2.2.2.2.2.2.2.2.2.2.2.2.1 (Int.ofNat n)), (show _ = (0 : Nat) from wfa.2.2.2.2.2.2.2.2.2.2.2.2.2.1 0), getL, takeL, dropL, TK.isAgg, reduceIte])
    refine ⟨fun e1 => ?_, fun e1 => ?_⟩
    · have e1 : i < m := (by (try simp only [wf, wfa, nc, nc', Int.toNat_natCast, bsz, ByteArray.size_append, List.length_cons, List.length_nil] at *); (try simp (disch := omega) only [w64, w32, wu8] at *); first | done | omega)
      have ihi := ih i e1 (l4 i e1) (K' i) (l4' i e1)
      rw [hG i e1, hG' i e1] at ihi
      have step : PrfP op n i ∨ CmpT PrfP (K i) (K' i) → ∀ j, j < i + 1 → PrfP op n j ∨ CmpT PrfP (K j) (K' j) := fun v j hj => by
        by_cases ej : j = i
        · subst ej; exact v
        · exact i2 j (by omega)
      repeat' first | (with_reducible refine And.intro ?_ ?_) | intro c9 | (refine Later.mk ?_; cbv; try simp only [wp, (show ∀ n : Nat, _ = n from fun n => wf.2.2.2.2.2.2.2.2.2.2.2.2.2.1 (Int.ofNat n)), (show _ = (0 : Nat) from wf.2.2.2.2.2.2.2.2.2.2.2.2.2.1 0), wpa, (show ∀ n : Nat, _ = n from fun n => wfa.2.2.2.2.2.2.2.2.2.2.2.2.2.1 (Int.ofNat n)), (show _ = (0 : Nat) from wfa.2.2.2.2.2.2.2.2.2.2.2.2.2.1 0), getL, takeL, dropL, TK.isAgg, reduceIte])
      all_goals first | exact (by (try simp only [wf, wfa, nc, nc', Int.toNat_natCast, bsz, ByteArray.size_append, List.length_cons, List.length_nil] at *); (try simp (disch := omega) only [w64, w32, wu8] at *); first | done | omega) | skip
      refine (isProofR op n s k C N W Q m G i (by omega) e1).call ?_
      rintro _ ⟨b, hb, rfl⟩
      rcases hb.dich with ⟨rfl, u⟩ | ⟨rfl, u⟩ <;> clear hb <;> (cbv; try simp only [wp, (show ∀ n : Nat, _ = n from fun n => wf.2.2.2.2.2.2.2.2.2.2.2.2.2.1 (Int.ofNat n)), (show _ = (0 : Nat) from wf.2.2.2.2.2.2.2.2.2.2.2.2.2.1 0), wpa, (show ∀ n : Nat, _ = n from fun n => wfa.2.2.2.2.2.2.2.2.2.2.2.2.2.1 (Int.ofNat n)), (show _ = (0 : Nat) from wfa.2.2.2.2.2.2.2.2.2.2.2.2.2.1 0), getL, takeL, dropL, TK.isAgg, reduceIte])
      · repeat' first | (with_reducible refine And.intro ?_ ?_) | intro c9 | (refine Later.mk ?_; cbv; try simp only [wp, (show ∀ n : Nat, _ = n from fun n => wf.2.2.2.2.2.2.2.2.2.2.2.2.2.1 (Int.ofNat n)), (show _ = (0 : Nat) from wf.2.2.2.2.2.2.2.2.2.2.2.2.2.1 0), wpa, (show ∀ n : Nat, _ = n from fun n => wfa.2.2.2.2.2.2.2.2.2.2.2.2.2.1 (Int.ofNat n)), (show _ = (0 : Nat) from wfa.2.2.2.2.2.2.2.2.2.2.2.2.2.1 0), getL, takeL, dropL, TK.isAgg, reduceIte])
        refine hBk (i + 1) _ (by omega) ⟨by omega, step (.inl u)⟩ ?_
        ((cbv; try simp only [wf, wfa, exD, exL, exT, exB, exA, leLs, leL_d, leL_undef, leL_nils, leA_nils, deq_refl, deq_int, deq_bool, deq_str, and_true, true_and, AObj.iter.injEq, nc, nc']; try simp (disch := omega) only [w64, w32, wu8]); first | done | rfl | omega | (simp; done) | (simp; omega) | skip)
      · repeat' first | (with_reducible refine And.intro ?_ ?_) | intro c9 | (refine Later.mk ?_; cbv; try simp only [wp, (show ∀ n : Nat, _ = n from fun n => wf.2.2.2.2.2.2.2.2.2.2.2.2.2.1 (Int.ofNat n)), (show _ = (0 : Nat) from wf.2.2.2.2.2.2.2.2.2.2.2.2.2.1 0), wpa, (show ∀ n : Nat, _ = n from fun n => wfa.2.2.2.2.2.2.2.2.2.2.2.2.2.1 (Int.ofNat n)), (show _ = (0 : Nat) from wfa.2.2.2.2.2.2.2.2.2.2.2.2.2.1 0), getL, takeL, dropL, TK.isAgg, reduceIte])
        all_goals first | exact (by (try simp only [wf, wfa, nc, nc', Int.toNat_natCast, bsz, ByteArray.size_append, List.length_cons, List.length_nil] at *); (try simp (disch := omega) only [w64, w32, wu8] at *); first | done | omega) | skip
        refine ihi.call ?_
        rintro _ ⟨b, hb, rfl⟩
        rcases hb.dich with ⟨rfl, z⟩ | ⟨rfl, z⟩ <;> clear hb <;> (cbv; try simp only [wp, (show ∀ n : Nat, _ = n from fun n => wf.2.2.2.2.2.2.2.2.2.2.2.2.2.1 (Int.ofNat n)), (show _ = (0 : Nat) from wf.2.2.2.2.2.2.2.2.2.2.2.2.2.1 0), wpa, (show ∀ n : Nat, _ = n from fun n => wfa.2.2.2.2.2.2.2.2.2.2.2.2.2.1 (Int.ofNat n)), (show _ = (0 : Nat) from wfa.2.2.2.2.2.2.2.2.2.2.2.2.2.1 0), getL, takeL, dropL, TK.isAgg, reduceIte])
        · repeat' first | (with_reducible refine And.intro ?_ ?_) | intro c9 | (refine Later.mk ?_; cbv; try simp only [wp, (show ∀ n : Nat, _ = n from fun n => wf.2.2.2.2.2.2.2.2.2.2.2.2.2.1 (Int.ofNat n)), (show _ = (0 : Nat) from wf.2.2.2.2.2.2.2.2.2.2.2.2.2.1 0), wpa, (show ∀ n : Nat, _ = n from fun n => wfa.2.2.2.2.2.2.2.2.2.2.2.2.2.1 (Int.ofNat n)), (show _ = (0 : Nat) from wfa.2.2.2.2.2.2.2.2.2.2.2.2.2.1 0), getL, takeL, dropL, TK.isAgg, reduceIte])
          refine hBk (i + 1) _ (by omega) ⟨by omega, step (.inr z)⟩ ?_
          ((cbv; try simp only [wf, wfa, exD, exL, exT, exB, exA, leLs, leL_d, leL_undef, leL_nils, leA_nils, deq_refl, deq_int, deq_bool, deq_str, and_true, true_and, AObj.iter.injEq, nc, nc']; try simp (disch := omega) only [w64, w32, wu8]); first | done | rfl | omega | (simp; done) | (simp; omega) | skip)
        · repeat' first | (with_reducible refine And.intro ?_ ?_) | intro c9 | (refine Later.mk ?_; cbv; try simp only [wp, (show ∀ n : Nat, _ = n from fun n => wf.2.2.2.2.2.2.2.2.2.2.2.2.2.1 (Int.ofNat n)), (show _ = (0 : Nat) from wf.2.2.2.2.2.2.2.2.2.2.2.2.2.1 0), wpa, (show ∀ n : Nat, _ = n from fun n => wfa.2.2.2.2.2.2.2.2.2.2.2.2.2.1 (Int.ofNat n)), (show _ = (0 : Nat) from wfa.2.2.2.2.2.2.2.2.2.2.2.2.2.1 0), getL, takeL, dropL, TK.isAgg, reduceIte])
          exact hR false _ (iffF fun h => (h.2.2.2.2.2 i e1).elim u z)
    · obtain rfl : i = m := (by (try simp only [wf, wfa, nc, nc', Int.toNat_natCast, bsz, ByteArray.size_append, List.length_cons, List.length_nil] at *); (try simp (disch := omega) only [w64, w32, wu8] at *); first | done | omega)
      (refine Later.mk ?_; cbv; try simp only [wp, (show ∀ n : Nat, _ = n from fun n => wf.2.2.2.2.2.2.2.2.2.2.2.2.2.1 (Int.ofNat n)), (show _ = (0 : Nat) from wf.2.2.2.2.2.2.2.2.2.2.2.2.2.1 0), wpa, (show ∀ n : Nat, _ = n from fun n => wfa.2.2.2.2.2.2.2.2.2.2.2.2.2.1 (Int.ofNat n)), (show _ = (0 : Nat) from wfa.2.2.2.2.2.2.2.2.2.2.2.2.2.1 0), getL, takeL, dropL, TK.isAgg, reduceIte])
      exact hR true _ (iffT ⟨rfl, rfl, rfl, v, rfl, i2⟩)
  · exact hR false _ (iffF fun h => v ⟨h.1, h.2.1, h.2.2.1, h.2.2.2.1, h.2.2.2.2.1⟩)
end Go.VM
