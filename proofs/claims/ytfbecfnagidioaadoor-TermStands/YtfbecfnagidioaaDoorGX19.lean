/- Part of the proof: TT25, TA6. -/
import Derived.Test.YtfbecfnagidioaaDoorGX18
import Derived.Test.YtfbecfnagidioaaDoorGX15
namespace Go.VM
open Go.Proofs Go
set_option maxRecDepth 100000
set_option linter.unusedVariables false
set_option linter.unusedSimpArgs false
theorem cloneK (m : Nat) (g : Nat → Nat → D) (hm : m < 2 ^ 30) : VCalls (P ()) 88 [.d (.sl m 5 g)] [] (fun r H' => (m = 0 ∧ r = .nils ∧ H' = []) ∨ ∃ n' g', n' = m ∧ (∀ i j, i < m → g' i j = g i j) ∧ r = .ref 0 0 n' 5 ∧ H' = [.arr n' 5 g' 0]) := by
  refine VCalls_of_Wl (Tf := fun {_} _ => fzT [] (T ())) (fun {_} => tabOk.frz []) [] 400 Tryd.func88 rfl (fun {_} => by kernel_rfl) (Nat.le_of_ble_eq_true rfl) @fun ⟨_, _, _, _, _, _, _, _, _, _, _, _, _, _, _, _, _, _, _, _, _, _, _, _, _, _, _, _, _, _, _, _, _, _, _, _, _, _, wp, wf⟩ nH R hnH hR => ?_
  subst hnH
  cbv
  try simp only [wp, (show ∀ n : Nat, _ = n from fun n => wf.2.2.2.2.2.2.2.2.2.2.2.2.2.1 (Int.ofNat n)), getL, takeL, dropL, TK.isAgg, reduceIte]
  repeat' first | (with_reducible refine And.intro ?_ ?_) | intro c9 | trivial | (refine Later.mk ?_; cbv; try simp only [wp, (show ∀ n : Nat, _ = n from fun n => wf.2.2.2.2.2.2.2.2.2.2.2.2.2.1 (Int.ofNat n)), (show _ = (0 : Nat) from wf.2.2.2.2.2.2.2.2.2.2.2.2.2.1 0), getL, takeL, dropL, TK.isAgg, reduceIte])
  all_goals first
    | exact (by (try simp only [wf, nc, nc', Int.toNat_natCast, bsz, ByteArray.size_append, List.length_cons, List.length_nil] at *); (try simp (disch := omega) only [w64, w32, wu8] at *); first | done | omega)
    | exact hR _ _ (.inl ⟨(by (try simp only [wf, nc, nc', Int.toNat_natCast, bsz, ByteArray.size_append, List.length_cons, List.length_nil] at *); (try simp (disch := omega) only [w64, w32, wu8] at *); first | done | omega), rfl, rfl⟩)
    | (refine hR _ _ (.inr ⟨_, _, ?_, ?_, rfl, rfl⟩)
       · ((try simp only [wf, nc, nc', Int.toNat_natCast, bsz, ByteArray.size_append, List.length_cons, List.length_nil] at *); (try simp (disch := omega) only [w64, w32, wu8] at *))
         omega
       · intro i j hi
         ((try simp only [wf, nc, nc', Int.toNat_natCast, bsz, ByteArray.size_append, List.length_cons, List.length_nil] at *); (try simp (disch := omega) only [w64, w32, wu8] at *))
         simp [appF])
theorem cloneK' (m : Nat) (g : Nat → Nat → D) (hm : m < 2 ^ 30) {H : AHeap} {R : A → AHeap → Prop} (h0 : m = 0 → R .nils H)
    (hR : ∀ n' g', n' = m → (∀ i j, i < m → g' i j = g i j) → R (.ref H.length 0 n' 5) (H ++ [.arr n' 5 g' 0])) : CallW P 88 [.d (.sl m 5 g)] H R := by
  refine CallW.of (VCalls.fresh2 (ds := [.sl m 5 g]) (cloneK m g hm) H (R := R) ?_) fun _ _ h => h
  rintro r H' (⟨rfl, rfl, rfl⟩ | ⟨n', g', h1, h2, rfl, rfl⟩)
  · exact ⟨.nils, fun i x hx => by simp at hx, trivial, by simpa [ren] using h0 rfl⟩
  · refine ⟨.ref _ _ _ _ (by simp), fun i x hx => ?_, ⟨⟨g', 0, rfl, Nat.le_refl _, Nat.zero_le _, fun i j _ _ => .refl _⟩, trivial⟩, hR n' g' h1 h2⟩
    have hi := (List.getElem?_eq_some_iff.1 hx).1
    obtain rfl : i = 0 := by simpa using hi
    simp at hx
    subst hx
    trivial
/-- what Put returns -/
def PutR (U : Nat → Int) (t s : Tm) (p : Nat) (r : A) : Prop := (∃ x, putT p U t s = some x ∧ r = .tup [tm x, .d (.int .i64 0)]) ∨ (putT p U t s = none ∧ r = .tup [tm Tm.leaf, .d (.int .i64 30)])
theorem nodes_len (x : Tm) {b : Nat} (h : nodesT x ≤ b) : lenT x ≤ b := by
  cases x with | mk op n s k C N W Q m ok L =>
  unfold nodesT at h
  have := sumF_ge (f := fun i => if h : i < m then nodesT (L ⟨i, h⟩) else 1) (fun i => by split; exact nodesT_pos _; exact Nat.le_refl _) m
  rw [sumF_congr (g := fun i => if h : i < m then nodesT (L ⟨i, h⟩) else 0) fun i hi => by rw [dif_pos hi, dif_pos hi]] at this
  show m ≤ b
  omega
theorem nd_set {t : Tm} {op n : Int} {s : ByteArray} {k : Nat} {C : Nat → Int} {N : Nat → Nat} {W Q : Nat → Nat → Int} {m : Nat} {G : Nat → Nat → D} (h : NdOk t op n s k C N W Q m G) (i : Int) (x : Tm) :
    ∃ G', tm (setK t i x) = tml op n s k C N W Q m G' ∧ ∀ j c, j < m → G' j c = if (j : Int) = i then tmD x c else G j c := by
  obtain ⟨h, -, -, -⟩ := h
  cases t with | mk op' n' s' k' C' N' W' Q' m' ok' L =>
  unfold tm at h
  injection h with h
  simp only [tmD, List.cons.injEq, A.d.injEq, D.int.injEq, D.str.injEq, D.sl.injEq, true_and, and_true] at h
  obtain ⟨rfl, rfl, rfl, ⟨rfl, hl⟩, rfl, hG⟩ := h
  refine ⟨fun j c => if h : j < m' then tmD (if (j : Int) = i then x else L ⟨j, h⟩) c else .nilp, ?_, fun j c hj => ?_⟩
  · unfold tm setK
    simp only [tmD, hl]
  · simp only [dif_pos hj, ← hG]
    split <;> rfl
theorem sumF_set {f g : Nat → Nat} {q b : Nat} : ∀ {m : Nat}, q < m → (∀ j, j < m → j ≠ q → f j = g j) → f q ≤ g q + b → sumF f m ≤ sumF g m + b
  | 0, hq, _, _ => absurd hq (Nat.not_lt_zero _)
  | m + 1, hq, h1, h2 => by
    simp only [sumF]
    by_cases e : m = q
    · subst e
      have : sumF f m = sumF g m := sumF_congr fun j hj => h1 j (by omega) (by omega)
      omega
    · have := sumF_set (m := m) (by omega) (fun j hj => h1 j (by omega)) h2
      have := h1 m (by omega) e
      omega
theorem set_size (t : Tm) (i : Int) (x : Tm) {b : Nat} (h0 : 0 ≤ i ∧ i < lenT t) (h : nodesT x ≤ nodesT (kidT t i) + b) : nodesT (setK t i x) ≤ nodesT t + b := by
  cases t with | mk op n s k C N W Q m ok L =>
  have h0 : 0 ≤ i ∧ i < m := h0
  have e : kidT (.mk op n s k C N W Q m ok L) i = L ⟨i.toNat, by omega⟩ := dif_pos h0
  rw [e] at h
  unfold setK nodesT
  have := sumF_set (m := m) (b := b) (f := fun j => if h : j < m then nodesT (if ((⟨j, h⟩ : Fin m).1 : Int) = i then x else L ⟨j, h⟩) else 0) (g := fun j => if h : j < m then nodesT (L ⟨j, h⟩) else 0) (q := i.toNat) (by omega) (fun j hj hne => by
    simp only [dif_pos hj, if_neg (show ¬ (j : Int) = i by omega)]) (by
    simp only [dif_pos (show i.toNat < m by omega), if_pos (show (i.toNat : Int) = i by omega)]
    exact h)
  dsimp only at this ⊢
  omega
theorem put_size : ∀ p U t s z, putT p U t s = some z → nodesT z ≤ nodesT t + nodesT s
  | 0, _, t, s, z, h => by
    simp only [putT, Option.some.injEq] at h
    subst h; omega
  | p + 1, U, t, s, z, h => by
    simp only [putT] at h
    split at h
    · rename_i hu
      obtain ⟨y, h1, rfl⟩ := Option.map_eq_some_iff.1 h
      exact set_size t _ y hu (put_size p _ _ s y h1)
    · cases h
def PutC (s0 : Tm) (p : Nat) : Prop := ∀ (g : Nat → Nat → D) (U : Nat → Int) (t : Tm), (∀ i, i < p → g i 0 = .int .i64 (U i)) → nodesT t ≤ 250000 → VFun (P ()) 62 [tm t, .d (.sl p 1 g), tm s0] (PutR U t s0 p)
theorem put0 (s0 : Tm) : PutC s0 0 := by
  intro g U t _ ht
  obtain ⟨f0, hf0⟩ : ∃ f0, f0 = tmD s0 := ⟨_, rfl⟩
  have es : tm s0 = .agg [.d (f0 0), .d (f0 1), .d (f0 2), .d (f0 3), .d (f0 4)] := by rw [hf0]; rfl
  clear hf0
  obtain ⟨op, n, s, k, C, N, W, Q, m, G, e, h1, h2, h3⟩ := nd_of t
  unfold PutR
  rw [e, putT, es]
  refine vfunL (Tf := fun {_} _ => fzT [5] (T ())) (fun {_} => tabOk.frz [5]) [] 400 Tryd.func62 rfl (fun {_} => by kernel_rfl) rfl (Nat.le_of_ble_eq_true rfl) @fun ⟨_, _, _, _, _, _, _, _, _, _, _, _, _, _, _, _, _, _, _, _, _, _, _, _, _, _, _, _, _, _, _, _, _, _, _, _, _, _, wp, wf⟩ R hR => ?_
  cbv
  try simp only [wp, (show ∀ n : Nat, _ = n from fun n => wf.2.2.2.2.2.2.2.2.2.2.2.2.2.1 (Int.ofNat n)), getL, takeL, dropL, TK.isAgg, reduceIte]
  repeat' first | (with_reducible refine And.intro ?_ ?_) | intro c9 | trivial | (refine Later.mk ?_; cbv; try simp only [wp, (show ∀ n : Nat, _ = n from fun n => wf.2.2.2.2.2.2.2.2.2.2.2.2.2.1 (Int.ofNat n)), (show _ = (0 : Nat) from wf.2.2.2.2.2.2.2.2.2.2.2.2.2.1 0), getL, takeL, dropL, TK.isAgg, reduceIte])
  all_goals first
    | exact absurd rfl c9
    | exact hR _ _ _ (.tup2 (.same5 _ _ _ _ _) (.d _)) (.inl ⟨s0, rfl, by rw [es]⟩)
    | (clear hR; exfalso; ((try simp only [wf, nc, nc', Int.toNat_natCast, bsz, ByteArray.size_append, List.length_cons, List.length_nil] at *); (try simp (disch := omega) only [w64, w32, wu8] at *)); omega)
set_option maxHeartbeats 4000000 in
theorem putS (s0 : Tm) (p : Nat) (hp : p < 400) (ih : PutC s0 p) : PutC s0 (p + 1) := by
  intro g U t hg ht
  obtain ⟨f0, hf0⟩ : ∃ f0, f0 = tmD s0 := ⟨_, rfl⟩
  have es : tm s0 = .agg [.d (f0 0), .d (f0 1), .d (f0 2), .d (f0 3), .d (f0 4)] := by rw [hf0]; rfl
  clear hf0
  obtain ⟨g3, g4, el⟩ := tm_leaf
  obtain ⟨op, n, s, k, C, N, W, Q, m, G, e, h1, h2, h3⟩ := nd_of t
  have hml := nodes_len t ht
  rw [← h2] at hml
  have g0 := hg 0 (by omega)
  have ih' := fun (g : Nat → Nat → D) (hg' : ∀ i, i < p → g i 0 = .int .i64 (U (i + 1))) (hu : 0 ≤ U 0 ∧ U 0 < m) => ih g (fun i => U (i + 1)) (kidT t (U 0)) hg' (kid_small (by rw [← h2]; exact hu) ht)
  rw [e, es]
  refine vfunL (Tf := fun {_} _ => fzT [5] (T ())) (fun {_} => tabOk.frz [5]) [] 400 Tryd.func62 rfl (fun {_} => by kernel_rfl) rfl (Nat.le_of_ble_eq_true rfl) @fun ⟨_, _, _, _, _, _, _, _, _, _, _, _, _, _, _, _, _, _, _, _, _, _, _, _, _, _, _, _, _, _, _, _, _, _, _, _, _, _, wp, wf⟩ R hR => ?_
  cbv
  try simp only [wp, (show ∀ n : Nat, _ = n from fun n => wf.2.2.2.2.2.2.2.2.2.2.2.2.2.1 (Int.ofNat n)), getL, takeL, dropL, TK.isAgg, reduceIte]
  repeat' first | (with_reducible refine And.intro ?_ ?_) | intro c9 | trivial | (refine Later.mk ?_; cbv; try simp only [wp, (show ∀ n : Nat, _ = n from fun n => wf.2.2.2.2.2.2.2.2.2.2.2.2.2.1 (Int.ofNat n)), (show _ = (0 : Nat) from wf.2.2.2.2.2.2.2.2.2.2.2.2.2.1 0), getL, takeL, dropL, TK.isAgg, reduceIte]) | (rw [g0]; (cbv; try simp only [wp, (show ∀ n : Nat, _ = n from fun n => wf.2.2.2.2.2.2.2.2.2.2.2.2.2.1 (Int.ofNat n)), (show _ = (0 : Nat) from wf.2.2.2.2.2.2.2.2.2.2.2.2.2.1 0), getL, takeL, dropL, TK.isAgg, reduceIte]))
  all_goals first
    | exact hR _ _ _ (.tup2 (.z5 g3 g4 _ _ _) (.d _)) (.inr ⟨by rw [putT, if_neg (by rw [← h2]; clear hR; exact (by (try simp only [wf, nc, nc', Int.toNat_natCast, bsz, ByteArray.size_append, List.length_cons, List.length_nil] at *); (try simp (disch := omega) only [w64, w32, wu8] at *); first | done | omega))], by rw [el]; rfl⟩)
    | exact (by (try simp only [wf, nc, nc', Int.toNat_natCast, bsz, ByteArray.size_append, List.length_cons, List.length_nil] at *); (try simp (disch := omega) only [w64, w32, wu8] at *); first | done | omega)
    | skip
  all_goals
    have hu : 0 ≤ U 0 ∧ U 0 < m := by clear hR; exact (by (try simp only [wf, nc, nc', Int.toNat_natCast, bsz, ByteArray.size_append, List.length_cons, List.length_nil] at *); (try simp (disch := omega) only [w64, w32, wu8] at *); first | done | omega)
    have hst : putT (p + 1) U t s0 = (putT p (fun i => U (i + 1)) (kidT t (U 0)) s0).map (setK t (U 0)) := by rw [putT, if_pos (by rw [← h2]; exact hu)]
    have hq := ih' (fun i j => g (1 + i) j) (fun i hi => by rw [hg (1 + i) (by omega), Nat.add_comm]) hu
    rw [h3 _ hu.1 hu.2, es] at hq
    refine CallW.args (args' := [kid G (U 0).toNat, .d (.sl p 1 (fun i j => g (1 + i) j)), .agg [.d (f0 0), .d (f0 1), .d (f0 2), .d (f0 3), .d (f0 4)]]) (fun {_ _} => ⟨⟨_, rfl, .of_eq (by clear hR; ((try simp only [wf, nc, nc', Int.toNat_natCast, bsz, ByteArray.size_append, List.length_cons, List.length_nil] at *); (try simp (disch := omega) only [w64, w32, wu8] at *))), .of_eq (by clear hR; ((try simp only [wf, nc, nc', Int.toNat_natCast, bsz, ByteArray.size_append, List.length_cons, List.length_nil] at *); (try simp (disch := omega) only [w64, w32, wu8] at *))), .of_eq (by clear hR; ((try simp only [wf, nc, nc', Int.toNat_natCast, bsz, ByteArray.size_append, List.length_cons, List.length_nil] at *); (try simp (disch := omega) only [w64, w32, wu8] at *))), .of_eq (by clear hR; ((try simp only [wf, nc, nc', Int.toNat_natCast, bsz, ByteArray.size_append, List.length_cons, List.length_nil] at *); (try simp (disch := omega) only [w64, w32, wu8] at *))), .of_eq (by clear hR; ((try simp only [wf, nc, nc', Int.toNat_natCast, bsz, ByteArray.size_append, List.length_cons, List.length_nil] at *); (try simp (disch := omega) only [w64, w32, wu8] at *))), trivial⟩, .of_eq (by clear hR; ((try simp only [wf, nc, nc', Int.toNat_natCast, bsz, ByteArray.size_append, List.length_cons, List.length_nil] at *); (try simp (disch := omega) only [w64, w32, wu8] at *)); rfl), ⟨_, rfl, .refl _, .refl _, .refl _, .refl _, .refl _, trivial⟩, trivial⟩) ?_
    refine hq.call ?_
    rintro _ (⟨y, hy, rfl⟩ | ⟨hy, rfl⟩)
  all_goals clear hq ih' ih
  all_goals first
    | (obtain ⟨f1, hf1⟩ : ∃ f1, f1 = tmD y := ⟨_, rfl⟩
       have e1 : tm y = .agg [.d (f1 0), .d (f1 1), .d (f1 2), .d (f1 3), .d (f1 4)] := by rw [hf1]; rfl
       rw [e1]
       (cbv; try simp only [wp, (show ∀ n : Nat, _ = n from fun n => wf.2.2.2.2.2.2.2.2.2.2.2.2.2.1 (Int.ofNat n)), (show _ = (0 : Nat) from wf.2.2.2.2.2.2.2.2.2.2.2.2.2.1 0), getL, takeL, dropL, TK.isAgg, reduceIte])
       repeat' first | (with_reducible refine And.intro ?_ ?_) | intro c9 | trivial | (refine Later.mk ?_; cbv; try simp only [wp, (show ∀ n : Nat, _ = n from fun n => wf.2.2.2.2.2.2.2.2.2.2.2.2.2.1 (Int.ofNat n)), (show _ = (0 : Nat) from wf.2.2.2.2.2.2.2.2.2.2.2.2.2.1 0), getL, takeL, dropL, TK.isAgg, reduceIte]))
    | (rw [el]
       (cbv; try simp only [wp, (show ∀ n : Nat, _ = n from fun n => wf.2.2.2.2.2.2.2.2.2.2.2.2.2.1 (Int.ofNat n)), (show _ = (0 : Nat) from wf.2.2.2.2.2.2.2.2.2.2.2.2.2.1 0), getL, takeL, dropL, TK.isAgg, reduceIte])
       repeat' first | (with_reducible refine And.intro ?_ ?_) | intro c9 | trivial | (refine Later.mk ?_; cbv; try simp only [wp, (show ∀ n : Nat, _ = n from fun n => wf.2.2.2.2.2.2.2.2.2.2.2.2.2.1 (Int.ofNat n)), (show _ = (0 : Nat) from wf.2.2.2.2.2.2.2.2.2.2.2.2.2.1 0), getL, takeL, dropL, TK.isAgg, reduceIte]))
  all_goals first
    | exact hR _ _ _ (.tup2 (.z5 g3 g4 _ _ _) (.d _)) (.inr ⟨by rw [hst, hy]; rfl, by rw [el]; rfl⟩)
    | exact (by (try simp only [wf, nc, nc', Int.toNat_natCast, bsz, ByteArray.size_append, List.length_cons, List.length_nil] at *); (try simp (disch := omega) only [w64, w32, wu8] at *); first | done | omega)
    | skip
  all_goals
    have m0 : m ≠ 0 := (by
      intro h
      have h7 := hu.2
      clear hR
      first | omega | (((try simp only [wf, nc, nc', Int.toNat_natCast, bsz, ByteArray.size_append, List.length_cons, List.length_nil] at *); (try simp (disch := omega) only [w64, w32, wu8] at *)); omega) | (rw [h] at h7; have h8 : U 0 < 0 := h7; have h9 := hu.1; omega))
    obtain ⟨G2, q1, q2⟩ := nd_set ⟨e, h1, h2, h3⟩ (U 0) y
    refine cloneK' m G (by omega) (fun h => absurd h m0) fun n' g' hn hg' => ?_
    subst hn
    (cbv; try simp only [wp, (show ∀ n : Nat, _ = n from fun n => wf.2.2.2.2.2.2.2.2.2.2.2.2.2.1 (Int.ofNat n)), (show _ = (0 : Nat) from wf.2.2.2.2.2.2.2.2.2.2.2.2.2.1 0), getL, takeL, dropL, TK.isAgg, reduceIte])
    repeat' first | (with_reducible refine And.intro ?_ ?_) | intro c9 | trivial | (refine Later.mk ?_; cbv; try simp only [wp, (show ∀ n : Nat, _ = n from fun n => wf.2.2.2.2.2.2.2.2.2.2.2.2.2.1 (Int.ofNat n)), (show _ = (0 : Nat) from wf.2.2.2.2.2.2.2.2.2.2.2.2.2.1 0), getL, takeL, dropL, TK.isAgg, reduceIte])
  all_goals first
    | exact (by (try simp only [wf, nc, nc', Int.toNat_natCast, bsz, ByteArray.size_append, List.length_cons, List.length_nil] at *); (try simp (disch := omega) only [w64, w32, wu8] at *); first | done | omega)
    | (refine hR _ _ (.tup [tml op n s k C N W Q n' G2, .d (.int .i64 0)]) (.tup2 (.agg _ _ rfl (frzs_cons (.d _) (frzs_cons (.d _) (frzs_cons (.d _) (frzs_cons (.d _) (frzs_cons (.deq _ _ _ (.ref0 _ _ _ _ _ _ rfl rfl) (Deq.sl _ _ _ _ ?_)) (frzs_nil _))))))) (.d _)) (.inl ⟨setK t (U 0) y, by rw [hst, hy]; rfl, by rw [q1]⟩)
       intro i j hi hj
       rw [q2 i j hi, ← hf1]
       clear hR
       ((try simp only [wf, nc, nc', Int.toNat_natCast, bsz, ByteArray.size_append, List.length_cons, List.length_nil] at *); (try simp (disch := omega) only [w64, w32, wu8] at *))
       have h7 := hu.1
       unfold updF
       by_cases ei : i = (U 0).toNat
       · rw [if_pos (show (i : Int) = U 0 by omega), ← ei]
         match j, hj with
         | 0, _ | 1, _ | 2, _ | 3, _ | 4, _ => exact .of_eq (by simp)
       · rw [if_neg (show ¬ (i : Int) = U 0 by omega), if_neg (fun h => ei h.1), if_neg (fun h => ei h.1), if_neg (fun h => ei h.1), if_neg (fun h => ei h.1), if_neg (fun h => ei h.1), hg' i j hi]
         exact .refl _)
theorem putAll (s0 : Tm) : ∀ p, p ≤ 400 → PutC s0 p
  | 0, _ => put0 s0
  | p + 1, h => putS s0 p (by omega) (putAll s0 p (by omega))
theorem PutT (t s0 : Tm) (p : Nat) (U : Nat → Int) (hp : p ≤ 400) (ht : nodesT t ≤ 1000) (hs : nodesT s0 ≤ 1000) : VFun (P ()) 39 [tm t, .d (.sl p 1 (isF U)), tm s0] (PutR U t s0 p) := by
  have hq := putAll s0 p hp (isF U) U t (fun _ _ => rfl) (by omega)
  obtain ⟨f, hf⟩ : ∃ f, f = tmD t := ⟨_, rfl⟩
  have e : tm t = .agg [.d (f 0), .d (f 1), .d (f 2), .d (f 3), .d (f 4)] := by rw [hf]; rfl
  obtain ⟨f0, hf0⟩ : ∃ f0, f0 = tmD s0 := ⟨_, rfl⟩
  have es : tm s0 = .agg [.d (f0 0), .d (f0 1), .d (f0 2), .d (f0 3), .d (f0 4)] := by rw [hf0]; rfl
  clear hf hf0
  obtain ⟨g3, g4, el⟩ := tm_leaf
  rw [e, es] at hq ⊢
  refine vfunL (Tf := fun {_} _ => fzT [3, 5] (T ())) (fun {_} => tabOk.frz [3, 5]) [] 400 Tryd.func39 rfl (fun {_} => by kernel_rfl) rfl (Nat.le_of_ble_eq_true rfl) @fun ⟨_, _, _, _, _, _, _, _, _, _, _, _, _, _, _, _, _, _, _, _, _, _, _, _, _, _, _, _, _, _, _, _, _, _, _, _, _, _, wp, wf⟩ R hR => ?_
  cbv
  try simp only [wp, (show ∀ n : Nat, _ = n from fun n => wf.2.2.2.2.2.2.2.2.2.2.2.2.2.1 (Int.ofNat n)), getL, takeL, dropL, TK.isAgg, reduceIte]
  repeat' first | (with_reducible refine And.intro ?_ ?_) | intro c9 | trivial | (refine Later.mk ?_; cbv; try simp only [wp, (show ∀ n : Nat, _ = n from fun n => wf.2.2.2.2.2.2.2.2.2.2.2.2.2.1 (Int.ofNat n)), (show _ = (0 : Nat) from wf.2.2.2.2.2.2.2.2.2.2.2.2.2.1 0), getL, takeL, dropL, TK.isAgg, reduceIte])
  refine hq.call ?_
  rintro _ (⟨y, hy, rfl⟩ | ⟨hy, rfl⟩)
  · have hsz := put_size _ _ _ _ _ hy
    have hc := cloneT y (by omega)
    obtain ⟨f1, hf1⟩ : ∃ f1, f1 = tmD y := ⟨_, rfl⟩
    have e1 : tm y = .agg [.d (f1 0), .d (f1 1), .d (f1 2), .d (f1 3), .d (f1 4)] := by rw [hf1]; rfl
    clear hf1
    rw [e1] at hc ⊢
    (cbv; try simp only [wp, (show ∀ n : Nat, _ = n from fun n => wf.2.2.2.2.2.2.2.2.2.2.2.2.2.1 (Int.ofNat n)), (show _ = (0 : Nat) from wf.2.2.2.2.2.2.2.2.2.2.2.2.2.1 0), getL, takeL, dropL, TK.isAgg, reduceIte])
    repeat' first | (with_reducible refine And.intro ?_ ?_) | intro c9 | trivial | (refine Later.mk ?_; cbv; try simp only [wp, (show ∀ n : Nat, _ = n from fun n => wf.2.2.2.2.2.2.2.2.2.2.2.2.2.1 (Int.ofNat n)), (show _ = (0 : Nat) from wf.2.2.2.2.2.2.2.2.2.2.2.2.2.1 0), getL, takeL, dropL, TK.isAgg, reduceIte])
    all_goals
      refine hc.call ?_
      rintro _ rfl
      (cbv; try simp only [wp, (show ∀ n : Nat, _ = n from fun n => wf.2.2.2.2.2.2.2.2.2.2.2.2.2.1 (Int.ofNat n)), (show _ = (0 : Nat) from wf.2.2.2.2.2.2.2.2.2.2.2.2.2.1 0), getL, takeL, dropL, TK.isAgg, reduceIte])
      repeat' first | (with_reducible refine And.intro ?_ ?_) | intro c9 | trivial | (refine Later.mk ?_; cbv; try simp only [wp, (show ∀ n : Nat, _ = n from fun n => wf.2.2.2.2.2.2.2.2.2.2.2.2.2.1 (Int.ofNat n)), (show _ = (0 : Nat) from wf.2.2.2.2.2.2.2.2.2.2.2.2.2.1 0), getL, takeL, dropL, TK.isAgg, reduceIte])
    all_goals exact hR _ _ _ (.tup2 (.same5 _ _ _ _ _) (.d _)) (.inl ⟨y, hy, by rw [e1]⟩)
  · rw [el]
    (cbv; try simp only [wp, (show ∀ n : Nat, _ = n from fun n => wf.2.2.2.2.2.2.2.2.2.2.2.2.2.1 (Int.ofNat n)), (show _ = (0 : Nat) from wf.2.2.2.2.2.2.2.2.2.2.2.2.2.1 0), getL, takeL, dropL, TK.isAgg, reduceIte])
    repeat' first | (with_reducible refine And.intro ?_ ?_) | intro c9 | trivial | (refine Later.mk ?_; cbv; try simp only [wp, (show ∀ n : Nat, _ = n from fun n => wf.2.2.2.2.2.2.2.2.2.2.2.2.2.1 (Int.ofNat n)), (show _ = (0 : Nat) from wf.2.2.2.2.2.2.2.2.2.2.2.2.2.1 0), getL, takeL, dropL, TK.isAgg, reduceIte])
    all_goals exact hR _ _ _ (.tup2 (.z5 g3 g4 _ _ _) (.d _)) (.inr ⟨hy, by rw [el]; rfl⟩)
end Go.VM

namespace Go.VM
open Go.Proofs Go
set_option maxRecDepth 100000
set_option linter.unusedVariables false
set_option linter.unusedSimpArgs false
theorem at_size : ∀ p U t n x k b, atA p U t n = some (x, k) → nodesT t ≤ b → nodesT x ≤ b
  | 0, _, t, n, x, k, b, h, hb => by
    simp only [atA, Option.some.injEq, Prod.mk.injEq] at h
    rw [← h.1]; exact hb
  | p + 1, U, t, n, x, k, b, h, hb => by
    simp only [atA] at h
    split at h
    · rename_i hu
      exact at_size p _ _ _ x k b h (kid_small hu hb)
    · cases h
theorem tm_cols (t : Tm) : ∃ f : Nat → D, tm t = .agg [.d (f 0), .d (f 1), .d (f 2), .d (f 3), .d (f 4)] := ⟨tmD t, rfl⟩
set_option maxHeartbeats 4000000 in
theorem lawTermStands (t : Tm) (p : Nat) (U : Nat → Int) (s0 : Tm) (hp63 : p < 2 ^ 63) : VFun (P ()) 10 [tm t, .d (.sl p 1 (isF U)), tm s0] (fun r => r = .d (.bool true)) := by
  obtain ⟨f, e⟩ := tm_cols t
  obtain ⟨g, e'⟩ := tm_cols s0
  have hh := heavyV 2 (fun i j => if i = 0 then f j else g j) (fun i => if i = 0 then t else s0) (by decide) (fun i hi => by
    match i, hi with
    | 0, _ => exact e
    | 1, _ => exact e')
  have cA := fun hp h => AtT t p U hp h
  have cP := fun hp h h' => PutT t s0 p U hp h h'
  have q1 := fun h => EqTerm t h
  have q2 := fun h => EqTerm s0 h
  rw [e] at cA q1
  rw [e, e'] at cP
  rw [e'] at q2
  rw [e, e']
  refine vfunL (Tf := fun {_} _ => fzT [3, 5] (T ())) (fun {_} => tabOk.frz [3, 5]) [] 400 Tryd.func10 rfl (fun {_} => by kernel_rfl) rfl (Nat.le_of_ble_eq_true rfl) @fun ⟨_, _, _, _, _, _, _, _, _, _, _, _, _, _, _, _, _, _, _, _, _, _, _, _, _, _, _, _, _, _, _, _, _, _, _, _, _, _, wp, wf⟩ R hR => ?_
  cbv
  try simp only [wp, (show ∀ n : Nat, _ = n from fun n => wf.2.2.2.2.2.2.2.2.2.2.2.2.2.1 (Int.ofNat n)), getL, takeL, dropL, TK.isAgg, reduceIte]
  replace hR := fun H => hR _ H _ (.d (.bool true)) rfl
  (refine CallW.frz @fun ⟨_, _, _, _, _, _, _, _, _, _, _, _, _, _, _, _, _, _, _, _, _, _, _, _, _, _, _, _, _, _, _, _, _, _, _, _, _, _, wpz, wfz⟩ => ?_; cbv; try simp only [wpz, wp, (show ∀ n : Nat, _ = n from fun n => wfz.2.2.2.2.2.2.2.2.2.2.2.2.2.1 (Int.ofNat n)), getL, takeL, dropL, TK.isAgg, reduceIte])
  repeat' first | (with_reducible refine And.intro ?_ ?_) | intro c9 | trivial | (refine Later.mk ?_; cbv; try simp only [wp, (show ∀ n : Nat, _ = n from fun n => wf.2.2.2.2.2.2.2.2.2.2.2.2.2.1 (Int.ofNat n)), (show _ = (0 : Nat) from wf.2.2.2.2.2.2.2.2.2.2.2.2.2.1 0), getL, takeL, dropL, TK.isAgg, reduceIte])
  refine CallW.args (args' := [.d (.sl 2 5 fun i j => if i = 0 then f j else g j)]) (fun {_ _} => ⟨?_, trivial⟩) ?_
  · ((try simp only [wf, wfz, nc, nc', Int.toNat_natCast, bsz, ByteArray.size_append, List.length_cons, List.length_nil] at *); (try simp (disch := omega) only [w64, w32, wu8] at *))
    refine .sl _ _ _ _ fun i j hi hj => ?_
    match i, hi with
    | 0, _ =>
      match j, hj with
      | 0, _ | 1, _ | 2, _ | 3, _ | 4, _ => exact .refl _
    | 1, _ =>
      match j, hj with
      | 0, _ | 1, _ | 2, _ | 3, _ | 4, _ => exact .refl _
  refine hh.call ?_
  rintro _ ⟨x, hx, rfl⟩
  cases x <;> (cbv; try simp only [wp, (show ∀ n : Nat, _ = n from fun n => wf.2.2.2.2.2.2.2.2.2.2.2.2.2.1 (Int.ofNat n)), (show _ = (0 : Nat) from wf.2.2.2.2.2.2.2.2.2.2.2.2.2.1 0), getL, takeL, dropL, TK.isAgg, reduceIte])
  rotate_left
  · repeat' first | (with_reducible refine And.intro ?_ ?_) | intro c9 | trivial | (refine Later.mk ?_; cbv; try simp only [wp, (show ∀ n : Nat, _ = n from fun n => wf.2.2.2.2.2.2.2.2.2.2.2.2.2.1 (Int.ofNat n)), (show _ = (0 : Nat) from wf.2.2.2.2.2.2.2.2.2.2.2.2.2.1 0), getL, takeL, dropL, TK.isAgg, reduceIte])
    all_goals exact hR _
  have ha : Light t 400 := hx rfl 0 (by decide)
  have hb : Light s0 400 := hx rfl 1 (by decide)
  clear hx hh
  repeat' first | (with_reducible refine And.intro ?_ ?_) | intro c9 | trivial | (refine Later.mk ?_; cbv; try simp only [wp, (show ∀ n : Nat, _ = n from fun n => wf.2.2.2.2.2.2.2.2.2.2.2.2.2.1 (Int.ofNat n)), (show _ = (0 : Nat) from wf.2.2.2.2.2.2.2.2.2.2.2.2.2.1 0), getL, takeL, dropL, TK.isAgg, reduceIte])
  all_goals first | exact hR _ | skip
  have hp : p ≤ 400 := (by clear hR; exact (by (try simp only [wf, nc, nc', Int.toNat_natCast, bsz, ByteArray.size_append, List.length_cons, List.length_nil] at *); (try simp (disch := omega) only [w64, w32, wu8] at *); first | done | omega))
  have na := ha.1
  have nb := hb.1
  refine (cA hp (by omega)).call ?_
  clear c9
  obtain ⟨g3, g4, el⟩ := tm_leaf
  rintro _ (⟨x, n, hx, rfl⟩ | ⟨hx, rfl⟩)
  · have nx := at_size _ _ _ _ _ _ _ hx na
    have cx := PutT t x p U hp (by omega) (by omega)
    obtain ⟨fx, ex⟩ := tm_cols x
    rw [e, ex] at cx
    rw [ex]
    (cbv; try simp only [wp, (show ∀ n : Nat, _ = n from fun n => wf.2.2.2.2.2.2.2.2.2.2.2.2.2.1 (Int.ofNat n)), (show _ = (0 : Nat) from wf.2.2.2.2.2.2.2.2.2.2.2.2.2.1 0), getL, takeL, dropL, TK.isAgg, reduceIte])
    repeat' first | (with_reducible refine And.intro ?_ ?_) | intro c9 | trivial | (refine Later.mk ?_; cbv; try simp only [wp, (show ∀ n : Nat, _ = n from fun n => wf.2.2.2.2.2.2.2.2.2.2.2.2.2.1 (Int.ofNat n)), (show _ = (0 : Nat) from wf.2.2.2.2.2.2.2.2.2.2.2.2.2.1 0), getL, takeL, dropL, TK.isAgg, reduceIte])
    refine cx.call ?_
    rintro _ (⟨y, hy, rfl⟩ | ⟨hy, rfl⟩)
    rotate_left
    · have h0 := (put_none p U t 0 x).2 hy
      rw [h0] at hx; cases hx
    rw [put_at _ _ _ _ _ _ hx] at hy
    obtain rfl := Option.some.inj hy
    rw [e]
    (cbv; try simp only [wp, (show ∀ n : Nat, _ = n from fun n => wf.2.2.2.2.2.2.2.2.2.2.2.2.2.1 (Int.ofNat n)), (show _ = (0 : Nat) from wf.2.2.2.2.2.2.2.2.2.2.2.2.2.1 0), getL, takeL, dropL, TK.isAgg, reduceIte])
    repeat' first | (with_reducible refine And.intro ?_ ?_) | intro c9 | trivial | (refine Later.mk ?_; cbv; try simp only [wp, (show ∀ n : Nat, _ = n from fun n => wf.2.2.2.2.2.2.2.2.2.2.2.2.2.1 (Int.ofNat n)), (show _ = (0 : Nat) from wf.2.2.2.2.2.2.2.2.2.2.2.2.2.1 0), getL, takeL, dropL, TK.isAgg, reduceIte])
    refine (cP hp (by omega) (by omega)).call ?_
    rintro _ (⟨z, hz, rfl⟩ | ⟨hz, rfl⟩)
    rotate_left
    · have h0 := (put_none p U t 0 s0).2 hz
      rw [h0] at hx; cases hx
    have nz := put_size _ _ _ _ _ hz
    have cz := AtT z p U hp (by omega)
    obtain ⟨k, hk⟩ := at_put p U t s0 0 z hz
    obtain ⟨fz, ez⟩ := tm_cols z
    rw [ez] at cz
    rw [ez]
    (cbv; try simp only [wp, (show ∀ n : Nat, _ = n from fun n => wf.2.2.2.2.2.2.2.2.2.2.2.2.2.1 (Int.ofNat n)), (show _ = (0 : Nat) from wf.2.2.2.2.2.2.2.2.2.2.2.2.2.1 0), getL, takeL, dropL, TK.isAgg, reduceIte])
    repeat' first | (with_reducible refine And.intro ?_ ?_) | intro c9 | trivial | (refine Later.mk ?_; cbv; try simp only [wp, (show ∀ n : Nat, _ = n from fun n => wf.2.2.2.2.2.2.2.2.2.2.2.2.2.1 (Int.ofNat n)), (show _ = (0 : Nat) from wf.2.2.2.2.2.2.2.2.2.2.2.2.2.1 0), getL, takeL, dropL, TK.isAgg, reduceIte])
    refine cz.call ?_
    rintro _ (⟨w, nw, hw, rfl⟩ | ⟨hw, rfl⟩)
    rotate_left
    · rw [hk] at hw; cases hw
    rw [hk] at hw
    injection hw with hw
    injection hw with hw1 hw2
    subst hw1 hw2
    rw [e']
    (cbv; try simp only [wp, (show ∀ n : Nat, _ = n from fun n => wf.2.2.2.2.2.2.2.2.2.2.2.2.2.1 (Int.ofNat n)), (show _ = (0 : Nat) from wf.2.2.2.2.2.2.2.2.2.2.2.2.2.1 0), getL, takeL, dropL, TK.isAgg, reduceIte])
    repeat' first | (with_reducible refine And.intro ?_ ?_) | intro c9 | trivial | (refine Later.mk ?_; cbv; try simp only [wp, (show ∀ n : Nat, _ = n from fun n => wf.2.2.2.2.2.2.2.2.2.2.2.2.2.1 (Int.ofNat n)), (show _ = (0 : Nat) from wf.2.2.2.2.2.2.2.2.2.2.2.2.2.1 0), getL, takeL, dropL, TK.isAgg, reduceIte])
    refine (q1 (by unfold Small; omega)).call ?_
    rintro _ rfl
    (cbv; try simp only [wp, (show ∀ n : Nat, _ = n from fun n => wf.2.2.2.2.2.2.2.2.2.2.2.2.2.1 (Int.ofNat n)), (show _ = (0 : Nat) from wf.2.2.2.2.2.2.2.2.2.2.2.2.2.1 0), getL, takeL, dropL, TK.isAgg, reduceIte])
    repeat' first | (with_reducible refine And.intro ?_ ?_) | intro c9 | trivial | (refine Later.mk ?_; cbv; try simp only [wp, (show ∀ n : Nat, _ = n from fun n => wf.2.2.2.2.2.2.2.2.2.2.2.2.2.1 (Int.ofNat n)), (show _ = (0 : Nat) from wf.2.2.2.2.2.2.2.2.2.2.2.2.2.1 0), getL, takeL, dropL, TK.isAgg, reduceIte])
    refine (q2 (by unfold Small; omega)).call ?_
    rintro _ rfl
    (cbv; try simp only [wp, (show ∀ n : Nat, _ = n from fun n => wf.2.2.2.2.2.2.2.2.2.2.2.2.2.1 (Int.ofNat n)), (show _ = (0 : Nat) from wf.2.2.2.2.2.2.2.2.2.2.2.2.2.1 0), getL, takeL, dropL, TK.isAgg, reduceIte])
    repeat' first | (with_reducible refine And.intro ?_ ?_) | intro c9 | trivial | (refine Later.mk ?_; cbv; try simp only [wp, (show ∀ n : Nat, _ = n from fun n => wf.2.2.2.2.2.2.2.2.2.2.2.2.2.1 (Int.ofNat n)), (show _ = (0 : Nat) from wf.2.2.2.2.2.2.2.2.2.2.2.2.2.1 0), getL, takeL, dropL, TK.isAgg, reduceIte])
    refine awakeT.call ?_
    rintro _ rfl
    (cbv; try simp only [wp, (show ∀ n : Nat, _ = n from fun n => wf.2.2.2.2.2.2.2.2.2.2.2.2.2.1 (Int.ofNat n)), (show _ = (0 : Nat) from wf.2.2.2.2.2.2.2.2.2.2.2.2.2.1 0), getL, takeL, dropL, TK.isAgg, reduceIte])
    repeat' first | (with_reducible refine And.intro ?_ ?_) | intro c9 | trivial | (refine Later.mk ?_; cbv; try simp only [wp, (show ∀ n : Nat, _ = n from fun n => wf.2.2.2.2.2.2.2.2.2.2.2.2.2.1 (Int.ofNat n)), (show _ = (0 : Nat) from wf.2.2.2.2.2.2.2.2.2.2.2.2.2.1 0), getL, takeL, dropL, TK.isAgg, reduceIte])
    all_goals exact hR _
  · have cx := PutT t Tm.leaf p U hp (by omega) (by decide)
    rw [el, e] at cx
    rw [el]
    (cbv; try simp only [wp, (show ∀ n : Nat, _ = n from fun n => wf.2.2.2.2.2.2.2.2.2.2.2.2.2.1 (Int.ofNat n)), (show _ = (0 : Nat) from wf.2.2.2.2.2.2.2.2.2.2.2.2.2.1 0), getL, takeL, dropL, TK.isAgg, reduceIte])
    repeat' first | (with_reducible refine And.intro ?_ ?_) | intro c9 | trivial | (refine Later.mk ?_; cbv; try simp only [wp, (show ∀ n : Nat, _ = n from fun n => wf.2.2.2.2.2.2.2.2.2.2.2.2.2.1 (Int.ofNat n)), (show _ = (0 : Nat) from wf.2.2.2.2.2.2.2.2.2.2.2.2.2.1 0), getL, takeL, dropL, TK.isAgg, reduceIte])
    refine cx.call ?_
    rintro _ (⟨y, hy, rfl⟩ | ⟨hy, rfl⟩)
    · have h0 := (put_none p U t 0 Tm.leaf).1 hx
      rw [h0] at hy; cases hy
    rw [el]
    (cbv; try simp only [wp, (show ∀ n : Nat, _ = n from fun n => wf.2.2.2.2.2.2.2.2.2.2.2.2.2.1 (Int.ofNat n)), (show _ = (0 : Nat) from wf.2.2.2.2.2.2.2.2.2.2.2.2.2.1 0), getL, takeL, dropL, TK.isAgg, reduceIte])
    repeat' first | (with_reducible refine And.intro ?_ ?_) | intro c9 | trivial | (refine Later.mk ?_; cbv; try simp only [wp, (show ∀ n : Nat, _ = n from fun n => wf.2.2.2.2.2.2.2.2.2.2.2.2.2.1 (Int.ofNat n)), (show _ = (0 : Nat) from wf.2.2.2.2.2.2.2.2.2.2.2.2.2.1 0), getL, takeL, dropL, TK.isAgg, reduceIte])
    refine (cP hp (by omega) (by omega)).call ?_
    rintro _ (⟨z, hz, rfl⟩ | ⟨hz, rfl⟩)
    · have h0 := (put_none p U t 0 s0).1 hx
      rw [h0] at hz; cases hz
    rw [el]
    (cbv; try simp only [wp, (show ∀ n : Nat, _ = n from fun n => wf.2.2.2.2.2.2.2.2.2.2.2.2.2.1 (Int.ofNat n)), (show _ = (0 : Nat) from wf.2.2.2.2.2.2.2.2.2.2.2.2.2.1 0), getL, takeL, dropL, TK.isAgg, reduceIte])
    repeat' first | (with_reducible refine And.intro ?_ ?_) | intro c9 | trivial | (refine Later.mk ?_; cbv; try simp only [wp, (show ∀ n : Nat, _ = n from fun n => wf.2.2.2.2.2.2.2.2.2.2.2.2.2.1 (Int.ofNat n)), (show _ = (0 : Nat) from wf.2.2.2.2.2.2.2.2.2.2.2.2.2.1 0), getL, takeL, dropL, TK.isAgg, reduceIte])
    refine awakeT.call ?_
    rintro _ rfl
    (cbv; try simp only [wp, (show ∀ n : Nat, _ = n from fun n => wf.2.2.2.2.2.2.2.2.2.2.2.2.2.1 (Int.ofNat n)), (show _ = (0 : Nat) from wf.2.2.2.2.2.2.2.2.2.2.2.2.2.1 0), getL, takeL, dropL, TK.isAgg, reduceIte])
    repeat' first | (with_reducible refine And.intro ?_ ?_) | intro c9 | trivial | (refine Later.mk ?_; cbv; try simp only [wp, (show ∀ n : Nat, _ = n from fun n => wf.2.2.2.2.2.2.2.2.2.2.2.2.2.1 (Int.ofNat n)), (show _ = (0 : Nat) from wf.2.2.2.2.2.2.2.2.2.2.2.2.2.1 0), getL, takeL, dropL, TK.isAgg, reduceIte])
    all_goals exact hR _
end Go.VM
