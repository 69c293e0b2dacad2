/- Part of the proof: TT8, TT9, TT14, TT16, TT17, TT0, TT15. -/
import Derived.Test.YtfbecfnagidioaaDoorGX14
import Derived.Test.YtfbecfnagidioaaDoorGX8
import Derived.Test.YtfbecfnagidioaaDoorGX10
import Derived.Test.YtfbecfnagidioaaDoorGV5
import Derived.Test.YtfbecfnagidioaaDoorGX12
import Derived.Test.YtfbecfnagidioaaDoorGX7
import Derived.Test.YtfbecfnagidioaaDoorGV6
import Derived.Test.YtfbecfnagidioaaDoorGX11
namespace Go.VM
open Go.Proofs Go
set_option maxRecDepth 100000
set_option linter.unusedVariables false
set_option linter.unusedSimpArgs false
theorem form1 {G : Nat → Nat → D} {i : Nat} {F : Prop} (h : VFun (P ()) 15 [kid G i] (fun r => ∃ b : Bool, (b = true ↔ F) ∧ r = .d (.bool b))) : VFun (P ()) 43 [kid G i] (fun r => ∃ b : Bool, (b = true ↔ ¬ F) ∧ r = .d (.bool b)) := by
  refine vfunO (Tf := fun {_} _ => fzT [1] (T ())) (fun {_} => tabOk.frz [1]) [] 400 Tryd.func43 rfl (fun {_} => by kernel_rfl) rfl (Nat.le_of_ble_eq_true rfl) @fun ⟨_, _, _, _, _, _, _, _, _, _, _, _, _, _, _, _, _, _, _, _, _, _, _, _, _, _, _, _, _, _, _, _, _, _, _, _, _, _, wp, wf⟩ R hR => ?_
  cbv
  try simp only [wp, (show ∀ n : Nat, _ = n from fun n => wf.2.2.2.2.2.2.2.2.2.2.2.2.2.1 (Int.ofNat n)), getL, takeL, dropL, TK.isAgg, reduceIte]
  replace hR := fun b H h => hR _ H (.d (.bool b)) (.d _) ⟨b, h, rfl⟩
  refine h.call ?_
  rintro _ ⟨b, hb, rfl⟩
  rcases hb.dich with ⟨rfl, v⟩ | ⟨rfl, v⟩ <;> clear hb <;> (cbv; try simp only [wp, (show ∀ n : Nat, _ = n from fun n => wf.2.2.2.2.2.2.2.2.2.2.2.2.2.1 (Int.ofNat n)), (show _ = (0 : Nat) from wf.2.2.2.2.2.2.2.2.2.2.2.2.2.1 0), getL, takeL, dropL, TK.isAgg, reduceIte])
  · exact hR false _ (iffF fun h => h v)
  · exact hR true _ (iffT v)
theorem idxT (m : Nat) (G : Nat → Nat → D) (F : Nat → Prop) (hm : m < 2 ^ 62) (h : ∀ i, i < m → VFun (P ()) 15 [kid G i] (fun r => ∃ b : Bool, (b = true ↔ F i) ∧ r = .d (.bool b))) : VCalls (P ()) 68 [.d (.sl m 5 G), .clo 43 [] []] []
    (fun r H => ∃ x : Int, ((x = -1 ∧ ∀ i, i < m → F i) ∨ (0 ≤ x ∧ ∃ i, i < m ∧ ¬ F i)) ∧ r = .d (.int .i64 x)) := by
  refine VCalls_of_Wo (Tf := fun {_} _ => fzT [] (T ())) (fun {_} => tabOk.frz []) [] 400 Tryd.func68 rfl (fun {_} => by kernel_rfl) (Nat.le_of_ble_eq_true rfl) @fun ⟨_, _, _, _, _, _, _, _, _, _, _, _, _, _, _, _, _, _, _, _, _, _, _, _, _, _, _, _, _, _, _, _, _, _, _, _, _, _, wp, wf⟩ nH R hnH hR => ?_
  subst hnH
  cbv
  try simp only [wp, (show ∀ n : Nat, _ = n from fun n => wf.2.2.2.2.2.2.2.2.2.2.2.2.2.1 (Int.ofNat n)), getL, takeL, dropL, TK.isAgg, reduceIte]
  replace hR := fun x H h => hR (.d (.int .i64 x)) H ⟨x, h, rfl⟩
  refine loopO (Tf := fun {_} _ => fzT [] (T ())) (fun {_} => tabOk.frz []) [] 400 (fun i : Nat => ⟨[.d (.sl m 5 G), .clo 43 [] [], .undef, .undef, .d (.int .i64 0), .undef, .d (.sl m 5 G), .d (.int .i64 m), .d (.int .i64 i), .undef, .undef, .undef, .undef, .undef, .undef, .undef, .undef, .undef, .undef], []⟩) (fun i => m - i) (fun i => i ≤ m ∧ ∀ j, j < i → F j) 0 ⟨Nat.zero_le _, fun j hj => absurd hj (Nat.not_lt_zero _)⟩ (fun {_} => by kernel_rfl) ?_ (fun i => by kernel_rfl) @fun ⟨_, _, _, _, _, _, _, _, _, _, _, _, _, _, _, _, _, _, _, _, _, _, _, _, _, _, _, _, _, _, _, _, _, _, _, _, _, _, wpa, wfa⟩ i Bk hi hBk => ?_
  · ((cbv; try simp only [wf, exD, exL, exT, exB, exA, leLs, leL_d, leL_undef, leL_nils, leA_nils, deq_refl, deq_int, deq_bool, deq_str, and_true, true_and, AObj.iter.injEq, nc, nc']; try simp (disch := omega) only [w64, w32, wu8]); first | done | rfl | omega | (simp; done) | (simp; omega) | skip)
  obtain ⟨i1, i2⟩ := hi
  (cbv; try simp only [wp, (show ∀ n : Nat, _ = n from fun n => wf.2.2.2.2.2.2.2.2.2.2.2.2.2.1 (Int.ofNat n)), (show _ = (0 : Nat) from wf.2.2.2.2.2.2.2.2.2.2.2.2.2.1 0), wpa, (show ∀ n : Nat, _ = n from fun n => wfa.2.2.2.2.2.2.2.2.2.2.2.2.2.1 (Int.ofNat n)), (show _ = (0 : Nat) from wfa.2.2.2.2.2.2.2.2.2.2.2.2.2.1 0), getL, takeL, dropL, TK.isAgg, reduceIte])
  refine ⟨fun e1 => ?_, fun e1 => ?_⟩
  · have e1 : i < m := (by (try simp only [wf, wfa, nc, nc', Int.toNat_natCast, bsz, ByteArray.size_append, List.length_cons, List.length_nil] at *); (try simp (disch := omega) only [w64, w32, wu8] at *); first | done | omega)
    have hi := form1 (h i e1)
    (refine Later.mk ?_; cbv; try simp only [wp, (show ∀ n : Nat, _ = n from fun n => wf.2.2.2.2.2.2.2.2.2.2.2.2.2.1 (Int.ofNat n)), (show _ = (0 : Nat) from wf.2.2.2.2.2.2.2.2.2.2.2.2.2.1 0), wpa, (show ∀ n : Nat, _ = n from fun n => wfa.2.2.2.2.2.2.2.2.2.2.2.2.2.1 (Int.ofNat n)), (show _ = (0 : Nat) from wfa.2.2.2.2.2.2.2.2.2.2.2.2.2.1 0), getL, takeL, dropL, TK.isAgg, reduceIte])
    repeat' first | with_reducible refine And.intro ?_ ?_ | intro c9
    all_goals first | exact (by (try simp only [wf, wfa, nc, nc', Int.toNat_natCast, bsz, ByteArray.size_append, List.length_cons, List.length_nil] at *); (try simp (disch := omega) only [w64, w32, wu8] at *); first | done | omega) | trivial | skip
    refine hi.call ?_
    rintro _ ⟨b, hb, rfl⟩
    rcases hb.dich with ⟨rfl, v⟩ | ⟨rfl, v⟩ <;> clear hb <;> (cbv; try simp only [wp, (show ∀ n : Nat, _ = n from fun n => wf.2.2.2.2.2.2.2.2.2.2.2.2.2.1 (Int.ofNat n)), (show _ = (0 : Nat) from wf.2.2.2.2.2.2.2.2.2.2.2.2.2.1 0), wpa, (show ∀ n : Nat, _ = n from fun n => wfa.2.2.2.2.2.2.2.2.2.2.2.2.2.1 (Int.ofNat n)), (show _ = (0 : Nat) from wfa.2.2.2.2.2.2.2.2.2.2.2.2.2.1 0), getL, takeL, dropL, TK.isAgg, reduceIte]) <;> (refine Later.mk ?_; cbv; try simp only [wp, (show ∀ n : Nat, _ = n from fun n => wf.2.2.2.2.2.2.2.2.2.2.2.2.2.1 (Int.ofNat n)), (show _ = (0 : Nat) from wf.2.2.2.2.2.2.2.2.2.2.2.2.2.1 0), wpa, (show ∀ n : Nat, _ = n from fun n => wfa.2.2.2.2.2.2.2.2.2.2.2.2.2.1 (Int.ofNat n)), (show _ = (0 : Nat) from wfa.2.2.2.2.2.2.2.2.2.2.2.2.2.1 0), getL, takeL, dropL, TK.isAgg, reduceIte])
    · exact hR i _ (.inr ⟨Int.natCast_nonneg i, i, e1, v⟩)
    · refine hBk (i + 1) _ (by omega) ⟨by omega, fun j hj => ?_⟩ ?_
      · by_cases ej : j = i
        · subst ej; exact Classical.byContradiction v
        · exact i2 j (by omega)
      · ((cbv; try simp only [wf, wfa, exD, exL, exT, exB, exA, leLs, leL_d, leL_undef, leL_nils, leA_nils, deq_refl, deq_int, deq_bool, deq_str, and_true, true_and, AObj.iter.injEq, nc, nc']; try simp (disch := omega) only [w64, w32, wu8]); first | done | rfl | omega | (simp; done) | (simp; omega) | skip)
  · obtain rfl : i = m := (by (try simp only [wf, wfa, nc, nc', Int.toNat_natCast, bsz, ByteArray.size_append, List.length_cons, List.length_nil] at *); (try simp (disch := omega) only [w64, w32, wu8] at *); first | done | omega)
    (refine Later.mk ?_; cbv; try simp only [wp, (show ∀ n : Nat, _ = n from fun n => wf.2.2.2.2.2.2.2.2.2.2.2.2.2.1 (Int.ofNat n)), (show _ = (0 : Nat) from wf.2.2.2.2.2.2.2.2.2.2.2.2.2.1 0), wpa, (show ∀ n : Nat, _ = n from fun n => wfa.2.2.2.2.2.2.2.2.2.2.2.2.2.1 (Int.ofNat n)), (show _ = (0 : Nat) from wfa.2.2.2.2.2.2.2.2.2.2.2.2.2.1 0), getL, takeL, dropL, TK.isAgg, reduceIte])
    exact hR (-1) _ (.inl ⟨rfl, i2⟩)
theorem contT (m : Nat) (G : Nat → Nat → D) (F : Nat → Prop) (hm : m < 2 ^ 62) (h : ∀ i, i < m → VFun (P ()) 15 [kid G i] (fun r => ∃ b : Bool, (b = true ↔ F i) ∧ r = .d (.bool b))) : VFun (P ()) 42 [.d (.sl m 5 G), .clo 43 [] []]
    (fun r => ∃ b : Bool, (b = false ↔ ∀ i, i < m → F i) ∧ r = .d (.bool b)) := by
  have h1 : VFun (P ()) 68 [.d (.sl m 5 G), .clo 43 [] []] (fun r => ∃ x : Int, ((x = -1 ∧ ∀ i, i < m → F i) ∨ (0 ≤ x ∧ ∃ i, i < m ∧ ¬ F i)) ∧ r = .d (.int .i64 x)) :=
    (idxT m G F hm h).pureC rfl rfl fun r H h => by
      obtain ⟨x, h1, rfl⟩ := h
      exact ⟨_, .keep _ (.d _), x, h1, rfl⟩
  refine VCalls.pureC (R1 := fun r H => ∃ b : Bool, (b = false ↔ ∀ i, i < m → F i) ∧ r = .d (.bool b)) ?_ rfl rfl fun r H h => by
    obtain ⟨x, h1, rfl⟩ := h
    exact ⟨_, .keep _ (.d _), x, h1, rfl⟩
  refine VCalls_of_Wo (Tf := fun {_} _ => fzT [] (T ())) (fun {_} => tabOk.frz []) [] 400 Tryd.func42 rfl (fun {_} => by kernel_rfl) (Nat.le_of_ble_eq_true rfl) @fun ⟨_, _, _, _, _, _, _, _, _, _, _, _, _, _, _, _, _, _, _, _, _, _, _, _, _, _, _, _, _, _, _, _, _, _, _, _, _, _, wp, wf⟩ nH R hnH hR => ?_
  subst hnH
  cbv
  try simp only [wp, (show ∀ n : Nat, _ = n from fun n => wf.2.2.2.2.2.2.2.2.2.2.2.2.2.1 (Int.ofNat n)), getL, takeL, dropL, TK.isAgg, reduceIte]
  replace hR := fun b H h => hR (.d (.bool b)) H ⟨b, h, rfl⟩
  refine h1.call ?_
  rintro _ ⟨x, hx, rfl⟩
  (cbv; try simp only [wp, (show ∀ n : Nat, _ = n from fun n => wf.2.2.2.2.2.2.2.2.2.2.2.2.2.1 (Int.ofNat n)), (show _ = (0 : Nat) from wf.2.2.2.2.2.2.2.2.2.2.2.2.2.1 0), getL, takeL, dropL, TK.isAgg, reduceIte])
  repeat' first | (with_reducible refine And.intro ?_ ?_) | intro c9 | (refine Later.mk ?_; cbv; try simp only [wp, (show ∀ n : Nat, _ = n from fun n => wf.2.2.2.2.2.2.2.2.2.2.2.2.2.1 (Int.ofNat n)), (show _ = (0 : Nat) from wf.2.2.2.2.2.2.2.2.2.2.2.2.2.1 0), getL, takeL, dropL, TK.isAgg, reduceIte])
  · refine hR true _ ⟨fun h => (by cases h), fun h => ?_⟩
    rcases hx with ⟨rfl, _⟩ | ⟨_, i, hi, hn⟩
    · exact absurd c9 (by decide)
    · exact absurd (h i hi) hn
  · refine hR false _ ⟨fun _ => ?_, fun _ => rfl⟩
    rcases hx with ⟨_, h⟩ | ⟨h, _⟩
    · exact h
    · exact absurd c9 (by omega)
/-- what has its form -/
def FormT : Tm → Prop
  | .mk op n s k C N W Q m _ L => (NodeQ op n s k m ∧ ∀ i, i < k → CanP (C i) (N i) (W i) (Q i)) ∧ ∀ i : Fin m, FormT (L i)
theorem FormT_nd {op n : Int} {s : ByteArray} {k : Nat} {C : Nat → Int} {N : Nat → Nat} {W Q : Nat → Nat → Int} {m : Nat} {ok : TmOk op n s k N m} {K : Nat → Tm} :
    FormT (.nd op n s k C N W Q m ok K) ↔ (NodeQ op n s k m ∧ ∀ i, i < k → CanP (C i) (N i) (W i) (Q i)) ∧ ∀ i, i < m → FormT (K i) := by
  have e : FormT (.nd op n s k C N W Q m ok K) ↔ ((NodeQ op n s k m ∧ ∀ i, i < k → CanP (C i) (N i) (W i) (Q i)) ∧ ∀ i : Fin m, FormT (K i)) := by simp only [Tm.nd, FormT]
  rw [e]
  exact and_congr Iff.rfl ⟨fun h i hi => h ⟨i, hi⟩, fun h i => h i i.2⟩
theorem Form (t : Tm) : Light t 400 → VFun (P ()) 15 [tm t] (fun r => ∃ b : Bool, (b = true ↔ FormT t) ∧ r = .d (.bool b)) := by
  refine Tm.walk (P := fun t => Light t 400 → VFun (P ()) 15 [tm t] (fun r => ∃ b : Bool, (b = true ↔ FormT t) ∧ r = .d (.bool b))) ?_ t
  clear t
  intro op n s k C N W Q m ok K G hG e ih hl
  obtain ⟨l1, l2, l3, l4⟩ := hl.kid
  rw [e, FormT_nd]
  clear e hl
  have hc := contT m G (fun i => FormT (K i)) (by omega) fun i hi => by rw [← hG i hi]; exact ih i hi (l4 i hi)
  have hn := nodeT op n s k C N W Q m G (by omega) (by omega) (by omega) (fun i hi => by have := l3 i hi; omega)
  refine vfunO (Tf := fun {_} _ => fzT [1] (T ())) (fun {_} => tabOk.frz [1]) [] 400 Tryd.func15 rfl (fun {_} => by kernel_rfl) rfl (Nat.le_of_ble_eq_true rfl) @fun ⟨_, _, _, _, _, _, _, _, _, _, _, _, _, _, _, _, _, _, _, _, _, _, _, _, _, _, _, _, _, _, _, _, _, _, _, _, _, _, wp, wf⟩ R hR => ?_
  cbv
  try simp only [wp, (show ∀ n : Nat, _ = n from fun n => wf.2.2.2.2.2.2.2.2.2.2.2.2.2.1 (Int.ofNat n)), getL, takeL, dropL, TK.isAgg, reduceIte]
  replace hR := fun b H h => hR _ H (.d (.bool b)) (.d _) ⟨b, h, rfl⟩
  refine hn.call ?_
  rintro _ ⟨b, hb, rfl⟩
  rcases hb.dich with ⟨rfl, v⟩ | ⟨rfl, v⟩ <;> clear hb <;> (cbv; try simp only [wp, (show ∀ n : Nat, _ = n from fun n => wf.2.2.2.2.2.2.2.2.2.2.2.2.2.1 (Int.ofNat n)), (show _ = (0 : Nat) from wf.2.2.2.2.2.2.2.2.2.2.2.2.2.1 0), getL, takeL, dropL, TK.isAgg, reduceIte])
  · repeat' first | trivial | with_reducible refine And.intro ?_ ?_ | intro c9
    refine hc.call ?_
    rintro _ ⟨b, hb, rfl⟩
    cases b <;> (cbv; try simp only [wp, (show ∀ n : Nat, _ = n from fun n => wf.2.2.2.2.2.2.2.2.2.2.2.2.2.1 (Int.ofNat n)), (show _ = (0 : Nat) from wf.2.2.2.2.2.2.2.2.2.2.2.2.2.1 0), getL, takeL, dropL, TK.isAgg, reduceIte])
    · repeat' first | trivial | with_reducible refine And.intro ?_ ?_ | intro c9
      all_goals exact hR true _ (iffT ⟨v, hb.1 rfl⟩)
    · repeat' first | trivial | with_reducible refine And.intro ?_ ?_ | intro c9
      all_goals exact hR false _ (iffF fun h => by have := hb.2 h.2; cases this)
  · repeat' first | trivial | with_reducible refine And.intro ?_ ?_ | intro c9
    all_goals exact hR false _ (iffF fun h => v h.1)
/-- valid: the number of nodes is bounded by what is looked at -/
def ValidT (t : Tm) : Prop := depT t ≤ 200 ∧ FormT t
theorem Valid03 (t : Tm) (hl : Light t 400) : VFun (P ()) 17 [tm t] (fun r => ∃ b : Bool, (b = true ↔ ValidT t) ∧ r = .d (.bool b)) := by
  unfold ValidT
  have hc := Nat.le_trans (cntT_le t) hl.1
  have hd := Nat.le_trans (depT_le t) hl.1
  have h1 := Size t hl
  have h2 := Form t hl
  obtain ⟨x, hx⟩ : ∃ x, x = cntT t := ⟨_, rfl⟩
  obtain ⟨y, hy⟩ : ∃ y, y = depT t := ⟨_, rfl⟩
  rw [← hx] at hc h1
  rw [← hy] at hd h1 ⊢
  clear hx hy
  unfold tm at h1 h2 ⊢
  obtain ⟨f, hf⟩ : ∃ f, f = tmD t := ⟨_, rfl⟩
  rw [← hf] at h1 h2 ⊢
  refine vfunO (Tf := fun {_} _ => fzT [1] (T ())) (fun {_} => tabOk.frz [1]) [] 400 Tryd.func17 rfl (fun {_} => by kernel_rfl) rfl (Nat.le_of_ble_eq_true rfl) @fun ⟨_, _, _, _, _, _, _, _, _, _, _, _, _, _, _, _, _, _, _, _, _, _, _, _, _, _, _, _, _, _, _, _, _, _, _, _, _, _, wp, wf⟩ R hR => ?_
  cbv
  try simp only [wp, (show ∀ n : Nat, _ = n from fun n => wf.2.2.2.2.2.2.2.2.2.2.2.2.2.1 (Int.ofNat n)), getL, takeL, dropL, TK.isAgg, reduceIte]
  replace hR := fun b H h => hR _ H (.d (.bool b)) (.d _) ⟨b, h, rfl⟩
  refine h1.call ?_
  rintro _ rfl
  (cbv; try simp only [wp, (show ∀ n : Nat, _ = n from fun n => wf.2.2.2.2.2.2.2.2.2.2.2.2.2.1 (Int.ofNat n)), (show _ = (0 : Nat) from wf.2.2.2.2.2.2.2.2.2.2.2.2.2.1 0), getL, takeL, dropL, TK.isAgg, reduceIte])
  repeat' first | (with_reducible refine And.intro ?_ ?_) | intro c9 | (refine Later.mk ?_; cbv; try simp only [wp, (show ∀ n : Nat, _ = n from fun n => wf.2.2.2.2.2.2.2.2.2.2.2.2.2.1 (Int.ofNat n)), (show _ = (0 : Nat) from wf.2.2.2.2.2.2.2.2.2.2.2.2.2.1 0), getL, takeL, dropL, TK.isAgg, reduceIte])
  · refine h2.call ?_
    rintro _ ⟨b, hb, rfl⟩
    (cbv; try simp only [wp, (show ∀ n : Nat, _ = n from fun n => wf.2.2.2.2.2.2.2.2.2.2.2.2.2.1 (Int.ofNat n)), (show _ = (0 : Nat) from wf.2.2.2.2.2.2.2.2.2.2.2.2.2.1 0), getL, takeL, dropL, TK.isAgg, reduceIte])
    repeat' first | (with_reducible refine And.intro ?_ ?_) | intro c9 | (refine Later.mk ?_; cbv; try simp only [wp, (show ∀ n : Nat, _ = n from fun n => wf.2.2.2.2.2.2.2.2.2.2.2.2.2.1 (Int.ofNat n)), (show _ = (0 : Nat) from wf.2.2.2.2.2.2.2.2.2.2.2.2.2.1 0), getL, takeL, dropL, TK.isAgg, reduceIte])
    all_goals exact hR b _ (hb.trans ⟨fun h => ⟨(by (try simp only [wf, nc, nc', Int.toNat_natCast, bsz, ByteArray.size_append, List.length_cons, List.length_nil] at *); (try simp (disch := omega) only [w64, w32, wu8] at *); first | done | omega), h⟩, fun h => h.2⟩)
  · exact hR false _ (iffF fun h => absurd h.1 (by (try simp only [wf, nc, nc', Int.toNat_natCast, bsz, ByteArray.size_append, List.length_cons, List.length_nil] at *); (try simp (disch := omega) only [w64, w32, wu8] at *); first | done | omega))
  · exact absurd c9 (by (try simp only [wf, nc, nc', Int.toNat_natCast, bsz, ByteArray.size_append, List.length_cons, List.length_nil] at *); (try simp (disch := omega) only [w64, w32, wu8] at *); first | done | omega)
end Go.VM

namespace Go.VM
open Go.Proofs Go
set_option maxRecDepth 100000
set_option linter.unusedVariables false
set_option linter.unusedSimpArgs false
/-- the identity on the unit -/
theorem okN (op : Int) (m : Nat) (h : -9223372036854775808 ≤ op ∧ op ≤ 9223372036854775807) (hm : m < 2 ^ 63) : TmOk op 0 ByteArray.empty 0 (fun _ => 0) m := ⟨h, by decide, by decide, by decide, fun _ => by decide, hm⟩
def leafT (op : Int) (h : -9223372036854775808 ≤ op ∧ op ≤ 9223372036854775807) : Tm := .nd op 0 ByteArray.empty 0 (fun _ => 0) (fun _ => 0) (fun _ _ => 0) (fun _ _ => 0) 0 (okN op 0 h (by decide)) fun _ => .leaf
def kidsI (i : Nat) : Tm := if i = 0 then leafT 12 (by decide) else leafT 1 (by decide)
def idT : Tm := .nd 6 0 ByteArray.empty 0 (fun _ => 0) (fun _ => 0) (fun _ _ => 0) (fun _ _ => 0) 2 (okN 6 2 (by decide) (by decide)) kidsI
theorem leaf_col (op : Int) (h : -9223372036854775808 ≤ op ∧ op ≤ 9223372036854775807) : tmD (leafT op h) 0 = .int .i64 op ∧ tmD (leafT op h) 1 = .int .i64 0 ∧ tmD (leafT op h) 2 = .str ByteArray.empty ∧
    tmD (leafT op h) 3 = .sl 0 2 (lsF (fun _ => 0) (fun _ => 0) (fun _ _ => 0) (fun _ _ => 0)) ∧ ∃ g, tmD (leafT op h) 4 = .sl 0 5 g := by
  obtain ⟨t0, t1, t2, t3, t4⟩ := tmD_nd op 0 ByteArray.empty 0 (fun _ => 0) (fun _ => 0) (fun _ _ => 0) (fun _ _ => 0) 0 (okN op 0 h (by decide)) fun _ => .leaf
  exact ⟨t0, t1, t2, t3, _, t4⟩
theorem idT_eq : ∃ G : Nat → Nat → D, tm idT = tml 6 0 ByteArray.empty 0 (fun _ => 0) (fun _ => 0) (fun _ _ => 0) (fun _ _ => 0) 2 G ∧ ∀ i j, i < 2 → j < 5 → Deq (rowsI i j) (G i j) := by
  obtain ⟨t0, t1, t2, t3, t4⟩ := tmD_nd 6 0 ByteArray.empty 0 (fun _ => 0) (fun _ => 0) (fun _ _ => 0) (fun _ _ => 0) 2 (okN 6 2 (by decide) (by decide)) kidsI
  refine ⟨fun i j => if h : i < 2 then tmD (kidsI i) j else .nilp, ?_, fun i j hi hj => ?_⟩
  · unfold tm idT tml
    rw [t0, t1, t2, t3, t4]
  · show Deq _ (if h : i < 2 then tmD (kidsI i) j else .nilp)
    rw [dif_pos hi]
    have key : ∀ op h, (∀ j, j < 5 → Deq (match j with | 0 => D.int .i64 op | 1 => .int .i64 0 | 2 => .str ByteArray.empty | 3 => .sl 0 2 (lsF (fun _ => 0) (fun _ => 0) (fun _ _ => 0) (fun _ _ => 0)) | _ => .sl 0 5 (fun _ _ => .nilp)) (tmD (leafT op h) j)) := fun op h j hj => by
      obtain ⟨a0, a1, a2, a3, g, a4⟩ := leaf_col op h
      match j, hj with
      | 0, _ => rw [a0]; exact .refl _
      | 1, _ => rw [a1]; exact .refl _
      | 2, _ => rw [a2]; exact .refl _
      | 3, _ => rw [a3]; exact .refl _
      | 4, _ => rw [a4]; exact .nil _ _ _ _
    match i, hi with
    | 0, _ =>
      have := key 12 (by decide) j hj
      match j, hj with
      | 0, _ | 1, _ | 2, _ | 3, _ | 4, _ => exact this
    | 1, _ =>
      have := key 1 (by decide) j hj
      match j, hj with
      | 0, _ | 1, _ | 2, _ | 3, _ | 4, _ => exact this
theorem idT_light : Light idT 400 := by
  have hl : ∀ op h, nodesT (leafT op h) = 1 ∧ ¬ longT (leafT op h) := fun op h => by
    unfold leafT
    rw [nodesT_nd, longT_nd]
    refine ⟨rfl, ?_⟩
    rintro (h | ⟨i, hi, _⟩)
    · exact absurd h (by decide)
    · omega
  unfold Light idT
  rw [nodesT_nd, longT_nd]
  have k0 := hl 12 (by decide)
  have k1 := hl 1 (by decide)
  refine ⟨?_, ?_⟩
  · simp only [sumF, kidsI]
    simp [k0.1, k1.1]
  · rintro (h | ⟨i, hi, h⟩)
    · exact absurd h (by decide)
    · unfold kidsI at h
      split at h
      · exact k0.2 h
      · exact k1.2 h
theorem idT_valid : ValidT idT := by
  have hl : ∀ op h, depT (leafT op h) = 1 := fun op h => by unfold leafT; rw [depT_nd]; rfl
  have ht : ∀ op h, (op = 12 ∨ op = 1) → FormT (leafT op h) := fun op h ho => by
    unfold leafT
    rw [FormT_nd]
    refine ⟨⟨?_, fun i hi => by omega⟩, fun i hi => by omega⟩
    rcases ho with rfl | rfl
    · exact ⟨by decide, by decide, by decide, by decide, fun h => by omega, fun h => by omega, fun _ => by decide, fun _ => rfl, fun h => by omega, fun _ => by decide⟩
    · exact ⟨by decide, by decide, by decide, by decide, fun h => by omega, fun h => by omega, fun _ => by decide, fun _ => rfl, fun h => by omega, fun _ => by decide⟩
  refine ⟨?_, ?_⟩
  · unfold idT
    rw [depT_nd]
    simp only [maxF, kidsI]
    simp [hl]
  · unfold idT
    rw [FormT_nd]
    refine ⟨⟨⟨by decide, by decide, by decide, by decide, fun h => by omega, fun h => by omega, fun _ => by decide, fun _ => rfl, fun h => by omega, fun _ => by decide⟩, fun i hi => by omega⟩, fun i hi => ?_⟩
    unfold kidsI
    split
    · exact ht 12 _ (.inl rfl)
    · exact ht 1 _ (.inr rfl)
theorem validI {H : AHeap} {R : A → AHeap → Prop} (hR : R (.d (.bool true)) H) : CallW P 17 [tml 6 0 ByteArray.empty 0 (fun _ => 0) (fun _ => 0) (fun _ _ => 0) (fun _ _ => 0) 2 rowsI] H R := by
  obtain ⟨G, e, hg⟩ := idT_eq
  have h := Valid03 idT idT_light
  rw [e] at h
  refine CallW.args (args' := [tml 6 0 ByteArray.empty 0 (fun _ => 0) (fun _ => 0) (fun _ _ => 0) (fun _ _ => 0) 2 G]) (fun {_ _} => ⟨⟨_, rfl, .refl _, .refl _, .refl _, .refl _, .sl _ _ _ _ fun i j hi hj => hg i j hi hj, trivial⟩, trivial⟩) ?_
  refine h.call ?_
  rintro _ ⟨b, hb, rfl⟩
  obtain rfl := hb.2 idT_valid
  exact hR
theorem formatT : VFun (P ()) 45 [tml 6 0 ByteArray.empty 0 (fun _ => 0) (fun _ => 0) (fun _ _ => 0) (fun _ _ => 0) 2 rowsI] (fun r => r = .tup [.d (.str ⟨⟨[40, 108, 97, 109, 32, 48, 32, 117, 110, 105, 116, 32, 35, 48, 41]⟩⟩), .d (.int .i64 0)]) := by
  refine vfunO (Tf := fun {_} _ => fzT [1] (T ())) (fun {_} => tabOk.frz [1]) [] 400 Tryd.func45 rfl (fun {_} => by kernel_rfl) rfl (Nat.le_of_ble_eq_true rfl) @fun ⟨_, _, _, _, _, _, _, _, _, _, _, _, _, _, _, _, _, _, _, _, _, _, _, _, _, _, _, _, _, _, _, _, _, _, _, _, _, _, wp, wf⟩ R hR => ?_
  cbv
  try simp only [wp, (show ∀ n : Nat, _ = n from fun n => wf.2.2.2.2.2.2.2.2.2.2.2.2.2.1 (Int.ofNat n)), getL, takeL, dropL, TK.isAgg, reduceIte]
  refine validI ?_
  (cbv; try simp only [wp, (show ∀ n : Nat, _ = n from fun n => wf.2.2.2.2.2.2.2.2.2.2.2.2.2.1 (Int.ofNat n)), (show _ = (0 : Nat) from wf.2.2.2.2.2.2.2.2.2.2.2.2.2.1 0), getL, takeL, dropL, TK.isAgg, reduceIte])
  repeat' first | trivial | with_reducible refine And.intro ?_ ?_ | intro c9
  all_goals (refine Later.mk ?_; cbv; try simp only [wp, (show ∀ n : Nat, _ = n from fun n => wf.2.2.2.2.2.2.2.2.2.2.2.2.2.1 (Int.ofNat n)), (show _ = (0 : Nat) from wf.2.2.2.2.2.2.2.2.2.2.2.2.2.1 0), getL, takeL, dropL, TK.isAgg, reduceIte])
  all_goals
    refine CallW.within (wLam ⟨⟨[]⟩⟩ (by decide)) [0] rfl ⟨rfl, trivial⟩ rfl ?_
    rintro _ _ ⟨rfl, G, rfl⟩
    refine ⟨[_], G, rfl, Nat.le_refl _, ⟨trivial, trivial⟩, rfl, ?_⟩
    (cbv; try simp only [wp, (show ∀ n : Nat, _ = n from fun n => wf.2.2.2.2.2.2.2.2.2.2.2.2.2.1 (Int.ofNat n)), (show _ = (0 : Nat) from wf.2.2.2.2.2.2.2.2.2.2.2.2.2.1 0), getL, takeL, dropL, TK.isAgg, reduceIte])
    refine bString rfl ?_
    (cbv; try simp only [wp, (show ∀ n : Nat, _ = n from fun n => wf.2.2.2.2.2.2.2.2.2.2.2.2.2.1 (Int.ofNat n)), (show _ = (0 : Nat) from wf.2.2.2.2.2.2.2.2.2.2.2.2.2.1 0), getL, takeL, dropL, TK.isAgg, reduceIte])
    exact hR _ _ _ (.tup2 (.d _) (.d _)) rfl
theorem awakeT : VFun (P ()) 19 [] (fun r => r = .d (.bool true)) := by
  refine vfunO (Tf := fun {_} _ => fzT [] (T ())) (fun {_} => tabOk.frz []) [] 400 Tryd.func19 rfl (fun {_} => by kernel_rfl) rfl (Nat.le_of_ble_eq_true rfl) @fun ⟨_, _, _, _, _, _, _, _, _, _, _, _, _, _, _, _, _, _, _, _, _, _, _, _, _, _, _, _, _, _, _, _, _, _, _, _, _, _, wp, wf⟩ R hR => ?_
  cbv
  try simp only [wp, (show ∀ n : Nat, _ = n from fun n => wf.2.2.2.2.2.2.2.2.2.2.2.2.2.1 (Int.ofNat n)), getL, takeL, dropL, TK.isAgg, reduceIte]
  (refine CallW.frz @fun ⟨_, _, _, _, _, _, _, _, _, _, _, _, _, _, _, _, _, _, _, _, _, _, _, _, _, _, _, _, _, _, _, _, _, _, _, _, _, _, wpz, wfz⟩ => ?_; cbv; try simp only [wpz, wp, (show ∀ n : Nat, _ = n from fun n => wfz.2.2.2.2.2.2.2.2.2.2.2.2.2.1 (Int.ofNat n)), getL, takeL, dropL, TK.isAgg, reduceIte])
  repeat' first | trivial | with_reducible refine And.intro ?_ ?_ | intro c9
  refine CallW.args (args' := [tml 6 0 ByteArray.empty 0 (fun _ => 0) (fun _ => 0) (fun _ _ => 0) (fun _ _ => 0) 2 rowsI]) (fun {_ _} => ⟨⟨_, rfl, .refl _, .refl _, .refl _, .nil _ _ _ _, ?_, trivial⟩, trivial⟩) ?_
  · ((try simp only [wf, nc, nc', Int.toNat_natCast, bsz, ByteArray.size_append, List.length_cons, List.length_nil] at *); (try simp (disch := omega) only [w64, w32, wu8] at *))
    refine .sl _ _ _ _ fun i j hi hj => ?_
    match i, hi with
    | 0, _ =>
      match j, hj with
      | 0, _ | 1, _ | 2, _ => exact .refl _
      | 3, _ | 4, _ => exact .nil _ _ _ _
    | 1, _ =>
      match j, hj with
      | 0, _ | 1, _ | 2, _ => exact .refl _
      | 3, _ | 4, _ => exact .nil _ _ _ _
  refine formatT.call ?_
  rintro _ rfl
  (cbv; try simp only [wp, (show ∀ n : Nat, _ = n from fun n => wf.2.2.2.2.2.2.2.2.2.2.2.2.2.1 (Int.ofNat n)), (show _ = (0 : Nat) from wf.2.2.2.2.2.2.2.2.2.2.2.2.2.1 0), getL, takeL, dropL, TK.isAgg, reduceIte])
  repeat' first | trivial | with_reducible refine And.intro ?_ ?_ | intro c9
  (refine CallW.frz @fun ⟨_, _, _, _, _, _, _, _, _, _, _, _, _, _, _, _, _, _, _, _, _, _, _, _, _, _, _, _, _, _, _, _, _, _, _, _, _, _, wpz, wfz⟩ => ?_; cbv; try simp only [wpz, wp, (show ∀ n : Nat, _ = n from fun n => wfz.2.2.2.2.2.2.2.2.2.2.2.2.2.1 (Int.ofNat n)), getL, takeL, dropL, TK.isAgg, reduceIte])
  repeat' first | trivial | with_reducible refine And.intro ?_ ?_ | intro c9
  refine CallW.args (args' := [tml 6 0 ByteArray.empty 0 (fun _ => 0) (fun _ => 0) (fun _ _ => 0) (fun _ _ => 0) 2 rowsI]) (fun {_ _} => ⟨⟨_, rfl, .refl _, .refl _, .refl _, .nil _ _ _ _, ?_, trivial⟩, trivial⟩) ?_
  · ((try simp only [wf, nc, nc', Int.toNat_natCast, bsz, ByteArray.size_append, List.length_cons, List.length_nil] at *); (try simp (disch := omega) only [w64, w32, wu8] at *))
    refine .sl _ _ _ _ fun i j hi hj => ?_
    match i, hi with
    | 0, _ =>
      match j, hj with
      | 0, _ | 1, _ | 2, _ => exact .refl _
      | 3, _ | 4, _ => exact .nil _ _ _ _
    | 1, _ =>
      match j, hj with
      | 0, _ | 1, _ | 2, _ => exact .refl _
      | 3, _ | 4, _ => exact .nil _ _ _ _
  refine validI ?_
  (cbv; try simp only [wp, (show ∀ n : Nat, _ = n from fun n => wf.2.2.2.2.2.2.2.2.2.2.2.2.2.1 (Int.ofNat n)), (show _ = (0 : Nat) from wf.2.2.2.2.2.2.2.2.2.2.2.2.2.1 0), getL, takeL, dropL, TK.isAgg, reduceIte])
  exact hR _ _ _ (.d _) rfl
/-- a list of terms, each of at most 400 nodes -/
theorem heavyV (m : Nat) (G : Nat → Nat → D) (K : Nat → Tm) (hm : m < 2 ^ 62) (hG : ∀ i, i < m → tm (K i) = kid G i) : VFun (P ()) 12 [.d (.sl m 5 G)] (fun r => ∃ b : Bool, (b = false → ∀ i, i < m → Light (K i) 400) ∧ r = .d (.bool b)) := by
  refine vfunO (Tf := fun {_} _ => fzT [] (T ())) (fun {_} => tabOk.frz []) [] 400 Tryd.func12 rfl (fun {_} => by kernel_rfl) rfl (Nat.le_of_ble_eq_true rfl) @fun ⟨_, _, _, _, _, _, _, _, _, _, _, _, _, _, _, _, _, _, _, _, _, _, _, _, _, _, _, _, _, _, _, _, _, _, _, _, _, _, wp, wf⟩ R hR => ?_
  cbv
  try simp only [wp, (show ∀ n : Nat, _ = n from fun n => wf.2.2.2.2.2.2.2.2.2.2.2.2.2.1 (Int.ofNat n)), getL, takeL, dropL, TK.isAgg, reduceIte]
  replace hR := fun b H h => hR _ H (.d (.bool b)) (.d _) ⟨b, h, rfl⟩
  refine loopO (Tf := fun {_} _ => fzT [] (T ())) (fun {_} => tabOk.frz []) [] 400 (fun i : Nat => ⟨[.d (.sl m 5 G), .undef, .d (.bool false), .d (.int .i64 i), .undef, .undef, .undef, .undef, .undef, .undef, .undef, .undef, .undef, .undef, .undef, .undef, .undef, .undef, .undef], []⟩) (fun i => m - i) (fun i => i ≤ m ∧ ∀ j, j < i → Light (K j) 400) 0 ⟨Nat.zero_le _, fun j hj => absurd hj (Nat.not_lt_zero _)⟩ (fun {_} => by kernel_rfl) ?_ (fun i => by kernel_rfl) @fun ⟨_, _, _, _, _, _, _, _, _, _, _, _, _, _, _, _, _, _, _, _, _, _, _, _, _, _, _, _, _, _, _, _, _, _, _, _, _, _, wpa, wfa⟩ i Bk hi hBk => ?_
  · ((cbv; try simp only [wf, exD, exL, exT, exB, exA, leLs, leL_d, leL_undef, leL_nils, leA_nils, deq_refl, deq_int, deq_bool, deq_str, and_true, true_and, AObj.iter.injEq, nc, nc']; try simp (disch := omega) only [w64, w32, wu8]); first | done | rfl | omega | (simp; done) | (simp; omega) | skip)
  obtain ⟨i1, i2⟩ := hi
  (cbv; try simp only [wp, (show ∀ n : Nat, _ = n from fun n => wf.2.2.2.2.2.2.2.2.2.2.2.2.2.1 (Int.ofNat n)), (show _ = (0 : Nat) from wf.2.2.2.2.2.2.2.2.2.2.2.2.2.1 0), wpa, (show ∀ n : Nat, _ = n from fun n => wfa.2.2.2.2.2.2.2.2.2.2.2.2.2.1 (Int.ofNat n)), (show _ = (0 : Nat) from wfa.2.2.2.2.2.2.2.2.2.2.2.2.2.1 0), getL, takeL, dropL, TK.isAgg, reduceIte])
  refine ⟨fun e1 => ?_, fun e1 => ?_⟩
  · have e1 : i < m := (by (try simp only [wf, wfa, nc, nc', Int.toNat_natCast, bsz, ByteArray.size_append, List.length_cons, List.length_nil] at *); (try simp (disch := omega) only [w64, w32, wu8] at *); first | done | omega)
    have hi := Heavy (K i) 400 (by decide)
    rw [hG i e1] at hi
    (refine Later.mk ?_; cbv; try simp only [wp, (show ∀ n : Nat, _ = n from fun n => wf.2.2.2.2.2.2.2.2.2.2.2.2.2.1 (Int.ofNat n)), (show _ = (0 : Nat) from wf.2.2.2.2.2.2.2.2.2.2.2.2.2.1 0), wpa, (show ∀ n : Nat, _ = n from fun n => wfa.2.2.2.2.2.2.2.2.2.2.2.2.2.1 (Int.ofNat n)), (show _ = (0 : Nat) from wfa.2.2.2.2.2.2.2.2.2.2.2.2.2.1 0), getL, takeL, dropL, TK.isAgg, reduceIte])
    repeat' first | (with_reducible refine And.intro ?_ ?_) | intro c9 | (refine Later.mk ?_; cbv; try simp only [wp, (show ∀ n : Nat, _ = n from fun n => wf.2.2.2.2.2.2.2.2.2.2.2.2.2.1 (Int.ofNat n)), (show _ = (0 : Nat) from wf.2.2.2.2.2.2.2.2.2.2.2.2.2.1 0), wpa, (show ∀ n : Nat, _ = n from fun n => wfa.2.2.2.2.2.2.2.2.2.2.2.2.2.1 (Int.ofNat n)), (show _ = (0 : Nat) from wfa.2.2.2.2.2.2.2.2.2.2.2.2.2.1 0), getL, takeL, dropL, TK.isAgg, reduceIte])
    all_goals first
      | exact (by (try simp only [wf, wfa, nc, nc', Int.toNat_natCast, bsz, ByteArray.size_append, List.length_cons, List.length_nil] at *); (try simp (disch := omega) only [w64, w32, wu8] at *); first | done | omega)
      | exact hR true _ (fun h => by cases h)
      | (refine hi.call ?_
         rintro _ ⟨b, hb, rfl⟩
         cases b <;> (cbv; try simp only [wp, (show ∀ n : Nat, _ = n from fun n => wf.2.2.2.2.2.2.2.2.2.2.2.2.2.1 (Int.ofNat n)), (show _ = (0 : Nat) from wf.2.2.2.2.2.2.2.2.2.2.2.2.2.1 0), wpa, (show ∀ n : Nat, _ = n from fun n => wfa.2.2.2.2.2.2.2.2.2.2.2.2.2.1 (Int.ofNat n)), (show _ = (0 : Nat) from wfa.2.2.2.2.2.2.2.2.2.2.2.2.2.1 0), getL, takeL, dropL, TK.isAgg, reduceIte]) <;> (refine Later.mk ?_; cbv; try simp only [wp, (show ∀ n : Nat, _ = n from fun n => wf.2.2.2.2.2.2.2.2.2.2.2.2.2.1 (Int.ofNat n)), (show _ = (0 : Nat) from wf.2.2.2.2.2.2.2.2.2.2.2.2.2.1 0), wpa, (show ∀ n : Nat, _ = n from fun n => wfa.2.2.2.2.2.2.2.2.2.2.2.2.2.1 (Int.ofNat n)), (show _ = (0 : Nat) from wfa.2.2.2.2.2.2.2.2.2.2.2.2.2.1 0), getL, takeL, dropL, TK.isAgg, reduceIte])
         · refine hBk (i + 1) _ (by omega) ⟨by omega, fun j hj => ?_⟩ ?_
           · by_cases ej : j = i
             · subst ej; exact hb.1 rfl
             · exact i2 j (by omega)
           · ((cbv; try simp only [wf, wfa, exD, exL, exT, exB, exA, leLs, leL_d, leL_undef, leL_nils, leA_nils, deq_refl, deq_int, deq_bool, deq_str, and_true, true_and, AObj.iter.injEq, nc, nc']; try simp (disch := omega) only [w64, w32, wu8]); first | done | rfl | omega | (simp; done) | (simp; omega) | skip)
         · exact hR true _ (fun h => by cases h))
  · obtain rfl : i = m := (by (try simp only [wf, wfa, nc, nc', Int.toNat_natCast, bsz, ByteArray.size_append, List.length_cons, List.length_nil] at *); (try simp (disch := omega) only [w64, w32, wu8] at *); first | done | omega)
    (refine Later.mk ?_; cbv; try simp only [wp, (show ∀ n : Nat, _ = n from fun n => wf.2.2.2.2.2.2.2.2.2.2.2.2.2.1 (Int.ofNat n)), (show _ = (0 : Nat) from wf.2.2.2.2.2.2.2.2.2.2.2.2.2.1 0), wpa, (show ∀ n : Nat, _ = n from fun n => wfa.2.2.2.2.2.2.2.2.2.2.2.2.2.1 (Int.ofNat n)), (show _ = (0 : Nat) from wfa.2.2.2.2.2.2.2.2.2.2.2.2.2.1 0), getL, takeL, dropL, TK.isAgg, reduceIte])
    exact hR false _ (fun _ => i2)
end Go.VM

namespace Go.VM
open Go.Proofs Go
set_option maxRecDepth 100000
set_option linter.unusedVariables false
set_option linter.unusedSimpArgs false
/-- which parts are proofs, of whatever number -/
def PrfI (op n : Int) (m : Nat) (i : Int) : Prop := 0 ≤ i ∧ i < m ∧ ((op = 7 ∧ i = 1 ∧ n = 1) ∨ (op = 9 ∧ ((i = 2 ∧ ¬ bitF .and .i64 n 1 = 0) ∨ (i = 3 ∧ ¬ bitF .and .i64 n 2 = 0))) ∨ ((op = 17 ∨ op = 22) ∧ i = 1) ∨ (op = 21 ∧ i = 2) ∨ (op = 23 ∧ 2 ≤ i ∧ i ≤ 4) ∨ (op = 25 ∧ i = 3) ∨ (op = 20 ∧ (i = 4 ∨ i = 5)))
theorem bindsT (op n : Int) (s : ByteArray) (k : Nat) (C : Nat → Int) (N : Nat → Nat) (W Q : Nat → Nat → Int) (m : Nat) (G : Nat → Nat → D) (i : Int) (hm : m < 2 ^ 62) : VFun (P ()) 29 [tml op n s k C N W Q m G, .d (.int .i64 i)] (fun r => r = .d (.int .i64 (bindI op m i))) := by
  refine vfunL (Tf := fun {_} _ => fzT [2] (T ())) (fun {_} => tabOk.frz [2]) [] 400 Tryd.func29 rfl (fun {_} => by kernel_rfl) rfl (Nat.le_of_ble_eq_true rfl) @fun ⟨_, _, _, _, _, _, _, _, _, _, _, _, _, _, _, _, _, _, _, _, _, _, _, _, _, _, _, _, _, _, _, _, _, _, _, _, _, _, wp, wf⟩ R hR => ?_
  cbv
  try simp only [wp, (show ∀ n : Nat, _ = n from fun n => wf.2.2.2.2.2.2.2.2.2.2.2.2.2.1 (Int.ofNat n)), getL, takeL, dropL, TK.isAgg, reduceIte]
  replace hR := fun x H h => hR (.d (.int .i64 x)) H (.d (.int .i64 x)) (.d _) (congrArg (fun z => A.d (D.int .i64 z)) h)
  unfold bindI at hR
  repeat' first | (with_reducible refine And.intro ?_ ?_) | intro c9 | (refine Later.mk ?_; cbv; try simp only [wp, (show ∀ n : Nat, _ = n from fun n => wf.2.2.2.2.2.2.2.2.2.2.2.2.2.1 (Int.ofNat n)), (show _ = (0 : Nat) from wf.2.2.2.2.2.2.2.2.2.2.2.2.2.1 0), getL, takeL, dropL, TK.isAgg, reduceIte])
  all_goals exact hR _ _ (by clear hR; ((try simp only [wf, nc, nc', Int.toNat_natCast, bsz, ByteArray.size_append, List.length_cons, List.length_nil] at *); (try simp (disch := omega) only [w64, w32, wu8] at *)); repeat' (first | omega | split))
theorem bindsR (op n : Int) (s : ByteArray) (k : Nat) (C : Nat → Int) (N : Nat → Nat) (W Q : Nat → Nat → Int) (m : Nat) (G : Nat → Nat → D) (i : Int) (hm : m < 2 ^ 62) : VFun (P ()) 30 [tml op n s k C N W Q m G, .d (.int .i64 i)] (fun r => r = .d (.int .i64 (bindI op m i))) := by
  refine vfunL (Tf := fun {_} _ => fzT [2] (T ())) (fun {_} => tabOk.frz [2]) [] 400 Tryd.func30 rfl (fun {_} => by kernel_rfl) rfl (Nat.le_of_ble_eq_true rfl) @fun ⟨_, _, _, _, _, _, _, _, _, _, _, _, _, _, _, _, _, _, _, _, _, _, _, _, _, _, _, _, _, _, _, _, _, _, _, _, _, _, wp, wf⟩ R hR => ?_
  cbv
  try simp only [wp, (show ∀ n : Nat, _ = n from fun n => wf.2.2.2.2.2.2.2.2.2.2.2.2.2.1 (Int.ofNat n)), getL, takeL, dropL, TK.isAgg, reduceIte]
  replace hR := fun x H h => hR (.d (.int .i64 x)) H (.d (.int .i64 x)) (.d _) (congrArg (fun z => A.d (D.int .i64 z)) h)
  unfold bindI at hR
  repeat' first | (with_reducible refine And.intro ?_ ?_) | intro c9 | (refine Later.mk ?_; cbv; try simp only [wp, (show ∀ n : Nat, _ = n from fun n => wf.2.2.2.2.2.2.2.2.2.2.2.2.2.1 (Int.ofNat n)), (show _ = (0 : Nat) from wf.2.2.2.2.2.2.2.2.2.2.2.2.2.1 0), getL, takeL, dropL, TK.isAgg, reduceIte])
  all_goals exact hR _ _ (by clear hR; ((try simp only [wf, nc, nc', Int.toNat_natCast, bsz, ByteArray.size_append, List.length_cons, List.length_nil] at *); (try simp (disch := omega) only [w64, w32, wu8] at *)); repeat' (first | omega | split))
end Go.VM

namespace Go.VM
open Go.Proofs Go
set_option maxRecDepth 100000
set_option linter.unusedVariables false
set_option linter.unusedSimpArgs false
theorem cloneV (m : Nat) (g : Nat → Nat → D) (hm : m < 2 ^ 30) : VFun (P ()) 103 [.d (.sl m 2 g)] (fun r => r = .d (.sl m 2 g)) := by
  refine vfunL (Tf := fun {_} _ => fzT [] (T ())) (fun {_} => tabOk.frz []) [] 400 Tryd.func103 rfl (fun {_} => by kernel_rfl) rfl (Nat.le_of_ble_eq_true rfl) @fun ⟨_, _, _, _, _, _, _, _, _, _, _, _, _, _, _, _, _, _, _, _, _, _, _, _, _, _, _, _, _, _, _, _, _, _, _, _, _, _, wp, wf⟩ R hR => ?_
  cbv
  try simp only [wp, (show ∀ n : Nat, _ = n from fun n => wf.2.2.2.2.2.2.2.2.2.2.2.2.2.1 (Int.ofNat n)), getL, takeL, dropL, TK.isAgg, reduceIte]
  repeat' first | (with_reducible refine And.intro ?_ ?_) | intro c9 | trivial | (refine Later.mk ?_; cbv; try simp only [wp, (show ∀ n : Nat, _ = n from fun n => wf.2.2.2.2.2.2.2.2.2.2.2.2.2.1 (Int.ofNat n)), (show _ = (0 : Nat) from wf.2.2.2.2.2.2.2.2.2.2.2.2.2.1 0), getL, takeL, dropL, TK.isAgg, reduceIte])
  · subst c9
    exact hR _ _ _ (.nils _ _) rfl
  all_goals first
    | exact (by (try simp only [wf, nc, nc', Int.toNat_natCast, bsz, ByteArray.size_append, List.length_cons, List.length_nil] at *); (try simp (disch := omega) only [w64, w32, wu8] at *); first | done | omega)
    | (refine hR _ _ _ (.deq _ _ _ (.ref0 _ _ _ _ _ _ rfl rfl) ?_) rfl
       ((try simp only [wf, nc, nc', Int.toNat_natCast, bsz, ByteArray.size_append, List.length_cons, List.length_nil] at *); (try simp (disch := omega) only [w64, w32, wu8] at *))
       rw [Nat.zero_add]
       exact Deq.sl _ _ _ _ fun i j hi hj => .of_eq (by simp [appF]))
theorem cloneL (m : Nat) (g : Nat → Nat → D) (hm : m < 2 ^ 30) : VCalls (P ()) 102 [.d (.sl m 2 g)] [] (fun r H' => (m = 0 ∧ r = .nils ∧ H' = []) ∨ ∃ n' g', n' = m ∧ (∀ i j, i < m → g' i j = g i j) ∧ r = .ref 0 0 n' 2 ∧ H' = [.arr n' 2 g' 0]) := by
  refine VCalls_of_Wl (Tf := fun {_} _ => fzT [] (T ())) (fun {_} => tabOk.frz []) [] 400 Tryd.func102 rfl (fun {_} => by kernel_rfl) (Nat.le_of_ble_eq_true rfl) @fun ⟨_, _, _, _, _, _, _, _, _, _, _, _, _, _, _, _, _, _, _, _, _, _, _, _, _, _, _, _, _, _, _, _, _, _, _, _, _, _, wp, wf⟩ nH R hnH hR => ?_
  subst hnH
  cbv
  try simp only [wp, (show ∀ n : Nat, _ = n from fun n => wf.2.2.2.2.2.2.2.2.2.2.2.2.2.1 (Int.ofNat n)), getL, takeL, dropL, TK.isAgg, reduceIte]
  repeat' first | (with_reducible refine And.intro ?_ ?_) | intro c9 | trivial | (refine Later.mk ?_; cbv; try simp only [wp, (show ∀ n : Nat, _ = n from fun n => wf.2.2.2.2.2.2.2.2.2.2.2.2.2.1 (Int.ofNat n)), (show _ = (0 : Nat) from wf.2.2.2.2.2.2.2.2.2.2.2.2.2.1 0), getL, takeL, dropL, TK.isAgg, reduceIte])
  all_goals first
    | exact (by (try simp only [wf, nc, nc', Int.toNat_natCast, bsz, ByteArray.size_append, List.length_cons, List.length_nil] at *); (try simp (disch := omega) only [w64, w32, wu8] at *); first | done | omega)
    | exact hR _ _ (.inl ⟨(by (try simp only [wf, nc, nc', Int.toNat_natCast, bsz, ByteArray.size_append, List.length_cons, List.length_nil] at *); (try simp (disch := omega) only [w64, w32, wu8] at *); first | done | omega), rfl, rfl⟩)
    | (refine hR _ _ (.inr ⟨_, _, ?_, ?_, rfl, rfl⟩)
       · ((try simp only [wf, nc, nc', Int.toNat_natCast, bsz, ByteArray.size_append, List.length_cons, List.length_nil] at *); (try simp (disch := omega) only [w64, w32, wu8] at *))
         omega
       · intro i j hi
         ((try simp only [wf, nc, nc', Int.toNat_natCast, bsz, ByteArray.size_append, List.length_cons, List.length_nil] at *); (try simp (disch := omega) only [w64, w32, wu8] at *))
         simp [appF])
theorem cloneL' (m : Nat) (g : Nat → Nat → D) (hm : m < 2 ^ 30) {H : AHeap} {R : A → AHeap → Prop} (h0 : m = 0 → R .nils H)
    (hR : ∀ n' g', n' = m → (∀ i j, i < m → g' i j = g i j) → R (.ref H.length 0 n' 2) (H ++ [.arr n' 2 g' 0])) : CallW P 102 [.d (.sl m 2 g)] H R := by
  refine CallW.of (VCalls.fresh2 (ds := [.sl m 2 g]) (cloneL m g hm) H (R := R) ?_) fun _ _ h => h
  rintro r H' (⟨rfl, rfl, rfl⟩ | ⟨n', g', h1, h2, rfl, rfl⟩)
  · exact ⟨.nils, fun i x hx => by simp at hx, trivial, by simpa [ren] using h0 rfl⟩
  · refine ⟨.ref _ _ _ _ (by simp), fun i x hx => ?_, ⟨⟨g', 0, rfl, Nat.le_refl _, Nat.zero_le _, fun i j _ _ => .refl _⟩, trivial⟩, hR n' g' h1 h2⟩
    have hi := (List.getElem?_eq_some_iff.1 hx).1
    obtain rfl : i = 0 := by simpa using hi
    simp at hx
    subst hx
    trivial
theorem copied (k : Nat) (C : Nat → Int) (N : Nat → Nat) (W Q : Nat → Nat → Int) (hk : k < 2 ^ 30) (hN : ∀ i, i < k → N i < 2 ^ 20) : VFun (P ()) 82 [.d (.sl k 2 (lsF C N W Q))] (fun r => r = .d (.sl k 2 (lsF C N W Q))) := by
  refine vfunL (Tf := fun {_} _ => fzT [] (T ())) (fun {_} => tabOk.frz []) [] 400 Tryd.func82 rfl (fun {_} => by kernel_rfl) rfl (Nat.le_of_ble_eq_true rfl) @fun ⟨_, _, _, _, _, _, _, _, _, _, _, _, _, _, _, _, _, _, _, _, _, _, _, _, _, _, _, _, _, _, _, _, _, _, _, _, _, _, wp, wf⟩ R hR => ?_
  cbv
  try simp only [wp, (show ∀ n : Nat, _ = n from fun n => wf.2.2.2.2.2.2.2.2.2.2.2.2.2.1 (Int.ofNat n)), getL, takeL, dropL, TK.isAgg, reduceIte]
  repeat' first | (with_reducible refine And.intro ?_ ?_) | intro c9 | trivial | (refine Later.mk ?_; cbv; try simp only [wp, (show ∀ n : Nat, _ = n from fun n => wf.2.2.2.2.2.2.2.2.2.2.2.2.2.1 (Int.ofNat n)), (show _ = (0 : Nat) from wf.2.2.2.2.2.2.2.2.2.2.2.2.2.1 0), getL, takeL, dropL, TK.isAgg, reduceIte])
  · obtain rfl : k = 0 := (by (try simp only [wf, nc, nc', Int.toNat_natCast, bsz, ByteArray.size_append, List.length_cons, List.length_nil] at *); (try simp (disch := omega) only [w64, w32, wu8] at *); first | done | omega)
    exact hR _ _ _ (.nils _ _) rfl
  have k0 : k ≠ 0 := fun h => c9 (by have := h; exact (by (try simp only [wf, nc, nc', Int.toNat_natCast, bsz, ByteArray.size_append, List.length_cons, List.length_nil] at *); (try simp (disch := omega) only [w64, w32, wu8] at *); first | done | omega))
  refine cloneL' k (lsF C N W Q) hk (fun h => absurd h k0) fun n' g' h1 h2 => ?_
  subst h1
  (cbv; try simp only [wp, (show ∀ n : Nat, _ = n from fun n => wf.2.2.2.2.2.2.2.2.2.2.2.2.2.1 (Int.ofNat n)), (show _ = (0 : Nat) from wf.2.2.2.2.2.2.2.2.2.2.2.2.2.1 0), getL, takeL, dropL, TK.isAgg, reduceIte])
  refine loopL (Tf := fun {_} _ => fzT [] (T ())) (fun {_} => tabOk.frz []) [] 400 (fun i : Nat => ⟨[.undef, .undef, .undef, .ref 0 0 n' 2, .undef, .undef, .undef, .undef, .undef, .undef, .undef, .d (.int .i64 n'), .d (.int .i64 i), .undef, .undef, .undef, .undef, .undef, .undef, .undef, .undef, .undef, .undef, .undef, .undef, .undef, .undef], [.arr n' 2 (lsF C N W Q) 0]⟩) (fun i => n' - i) (fun i => i ≤ n') 0 (Nat.zero_le _) (fun {_} => by kernel_rfl) ?_ (fun i => by kernel_rfl) @fun ⟨_, _, _, _, _, _, _, _, _, _, _, _, _, _, _, _, _, _, _, _, _, _, _, _, _, _, _, _, _, _, _, _, _, _, _, _, _, _, wpa, wfa⟩ i Bk hi hBk => ?_
  · (cbv; try simp only [wf, exD, exL, exT, exB, exA, leLs, leL_d, leL_undef, leL_nils, leA_nils, deq_refl, deq_int, deq_bool, deq_str, and_true, true_and, AObj.iter.injEq, nc, nc']; try simp (disch := omega) only [w64, w32, wu8])
    exact ⟨rfl, Nat.le_refl _, Nat.zero_le _, fun i j hi _ => .of_eq (h2 i j hi)⟩
  (cbv; try simp only [wp, (show ∀ n : Nat, _ = n from fun n => wf.2.2.2.2.2.2.2.2.2.2.2.2.2.1 (Int.ofNat n)), (show _ = (0 : Nat) from wf.2.2.2.2.2.2.2.2.2.2.2.2.2.1 0), wpa, (show ∀ n : Nat, _ = n from fun n => wfa.2.2.2.2.2.2.2.2.2.2.2.2.2.1 (Int.ofNat n)), (show _ = (0 : Nat) from wfa.2.2.2.2.2.2.2.2.2.2.2.2.2.1 0), getL, takeL, dropL, TK.isAgg, reduceIte])
  refine ⟨fun e => ?_, fun e => ?_⟩
  · have e : i < n' := (by (try simp only [wf, wfa, nc, nc', Int.toNat_natCast, bsz, ByteArray.size_append, List.length_cons, List.length_nil] at *); (try simp (disch := omega) only [w64, w32, wu8] at *); first | done | omega)
    have hc := cloneV (N i) (lvF (W i) (Q i)) (by have := hN i e; omega)
    (refine Later.mk ?_; cbv; try simp only [wp, (show ∀ n : Nat, _ = n from fun n => wf.2.2.2.2.2.2.2.2.2.2.2.2.2.1 (Int.ofNat n)), (show _ = (0 : Nat) from wf.2.2.2.2.2.2.2.2.2.2.2.2.2.1 0), wpa, (show ∀ n : Nat, _ = n from fun n => wfa.2.2.2.2.2.2.2.2.2.2.2.2.2.1 (Int.ofNat n)), (show _ = (0 : Nat) from wfa.2.2.2.2.2.2.2.2.2.2.2.2.2.1 0), getL, takeL, dropL, TK.isAgg, reduceIte])
    repeat' first | (with_reducible refine And.intro ?_ ?_) | intro c9 | trivial | (refine Later.mk ?_; cbv; try simp only [wp, (show ∀ n : Nat, _ = n from fun n => wf.2.2.2.2.2.2.2.2.2.2.2.2.2.1 (Int.ofNat n)), (show _ = (0 : Nat) from wf.2.2.2.2.2.2.2.2.2.2.2.2.2.1 0), wpa, (show ∀ n : Nat, _ = n from fun n => wfa.2.2.2.2.2.2.2.2.2.2.2.2.2.1 (Int.ofNat n)), (show _ = (0 : Nat) from wfa.2.2.2.2.2.2.2.2.2.2.2.2.2.1 0), getL, takeL, dropL, TK.isAgg, reduceIte])
    all_goals first | exact (by (try simp only [wf, wfa, nc, nc', Int.toNat_natCast, bsz, ByteArray.size_append, List.length_cons, List.length_nil] at *); (try simp (disch := omega) only [w64, w32, wu8] at *); first | done | omega) | skip
    refine hc.call ?_
    rintro _ rfl
    (cbv; try simp only [wp, (show ∀ n : Nat, _ = n from fun n => wf.2.2.2.2.2.2.2.2.2.2.2.2.2.1 (Int.ofNat n)), (show _ = (0 : Nat) from wf.2.2.2.2.2.2.2.2.2.2.2.2.2.1 0), wpa, (show ∀ n : Nat, _ = n from fun n => wfa.2.2.2.2.2.2.2.2.2.2.2.2.2.1 (Int.ofNat n)), (show _ = (0 : Nat) from wfa.2.2.2.2.2.2.2.2.2.2.2.2.2.1 0), getL, takeL, dropL, TK.isAgg, reduceIte])
    repeat' first | (with_reducible refine And.intro ?_ ?_) | intro c9 | trivial | (refine Later.mk ?_; cbv; try simp only [wp, (show ∀ n : Nat, _ = n from fun n => wf.2.2.2.2.2.2.2.2.2.2.2.2.2.1 (Int.ofNat n)), (show _ = (0 : Nat) from wf.2.2.2.2.2.2.2.2.2.2.2.2.2.1 0), wpa, (show ∀ n : Nat, _ = n from fun n => wfa.2.2.2.2.2.2.2.2.2.2.2.2.2.1 (Int.ofNat n)), (show _ = (0 : Nat) from wfa.2.2.2.2.2.2.2.2.2.2.2.2.2.1 0), getL, takeL, dropL, TK.isAgg, reduceIte])
    all_goals first
      | exact (by (try simp only [wf, wfa, nc, nc', Int.toNat_natCast, bsz, ByteArray.size_append, List.length_cons, List.length_nil] at *); (try simp (disch := omega) only [w64, w32, wu8] at *); first | done | omega)
      | (refine hBk (i + 1) _ (by omega) (by omega) ?_
         (cbv; try simp only [wf, wfa, exD, exL, exT, exB, exA, leLs, leL_d, leL_undef, leL_nils, leA_nils, deq_refl, deq_int, deq_bool, deq_str, and_true, true_and, AObj.iter.injEq, nc, nc']; try simp (disch := omega) only [w64, w32, wu8])
         ((try simp only [wf, wfa, nc, nc', Int.toNat_natCast, bsz, ByteArray.size_append, List.length_cons, List.length_nil] at *); (try simp (disch := omega) only [w64, w32, wu8] at *))
         refine ⟨by omega, Nat.le_refl _, Nat.zero_le _, fun x j hx hj => ?_⟩
         unfold updF
         split
         · rename_i h
           obtain ⟨rfl, rfl⟩ := h
           exact .of_eq rfl
         · exact .refl _)
  · obtain rfl : i = n' := (by (try simp only [wf, wfa, nc, nc', Int.toNat_natCast, bsz, ByteArray.size_append, List.length_cons, List.length_nil] at *); (try simp (disch := omega) only [w64, w32, wu8] at *); first | done | omega)
    (refine Later.mk ?_; cbv; try simp only [wp, (show ∀ n : Nat, _ = n from fun n => wf.2.2.2.2.2.2.2.2.2.2.2.2.2.1 (Int.ofNat n)), (show _ = (0 : Nat) from wf.2.2.2.2.2.2.2.2.2.2.2.2.2.1 0), wpa, (show ∀ n : Nat, _ = n from fun n => wfa.2.2.2.2.2.2.2.2.2.2.2.2.2.1 (Int.ofNat n)), (show _ = (0 : Nat) from wfa.2.2.2.2.2.2.2.2.2.2.2.2.2.1 0), getL, takeL, dropL, TK.isAgg, reduceIte])
    exact hR _ _ _ (.ref0 0 i 2 i 0 _ rfl rfl) rfl
end Go.VM

namespace Go.VM
open Go.Proofs Go
set_option maxRecDepth 100000
set_option linter.unusedVariables false
set_option linter.unusedSimpArgs false
theorem variableT (op n : Int) (s : ByteArray) (k : Nat) (C : Nat → Int) (N : Nat → Nat) (W Q : Nat → Nat → Int) (m : Nat) (G : Nat → Nat → D) : VFun (P ()) 83 [tml op n s k C N W Q m G] (fun r => ∃ b : Bool, (b = true ↔ IsV op n) ∧ r = .d (.bool b)) := by
  refine vfunL (Tf := fun {_} _ => fzT [1] (T ())) (fun {_} => tabOk.frz [1]) [] 400 Tryd.func83 rfl (fun {_} => by kernel_rfl) rfl (Nat.le_of_ble_eq_true rfl) @fun ⟨_, _, _, _, _, _, _, _, _, _, _, _, _, _, _, _, _, _, _, _, _, _, _, _, _, _, _, _, _, _, _, _, _, _, _, _, _, _, wp, wf⟩ R hR => ?_
  cbv
  try simp only [wp, (show ∀ n : Nat, _ = n from fun n => wf.2.2.2.2.2.2.2.2.2.2.2.2.2.1 (Int.ofNat n)), getL, takeL, dropL, TK.isAgg, reduceIte]
  replace hR := fun b H h => hR _ H (.d (.bool b)) (.d _) ⟨b, h, rfl⟩
  repeat' first | (with_reducible refine And.intro ?_ ?_) | intro c9 | (refine Later.mk ?_; cbv; try simp only [wp, (show ∀ n : Nat, _ = n from fun n => wf.2.2.2.2.2.2.2.2.2.2.2.2.2.1 (Int.ofNat n)), (show _ = (0 : Nat) from wf.2.2.2.2.2.2.2.2.2.2.2.2.2.1 0), getL, takeL, dropL, TK.isAgg, reduceIte])
  all_goals first
    | exact hR true _ (iffT (by clear hR; ((try simp only [wf, nc, nc', Int.toNat_natCast, bsz, ByteArray.size_append, List.length_cons, List.length_nil] at *); (try simp (disch := omega) only [w64, w32, wu8] at *)); unfold IsV; omega))
    | exact hR false _ (iffF (by clear hR; ((try simp only [wf, nc, nc', Int.toNat_natCast, bsz, ByteArray.size_append, List.length_cons, List.length_nil] at *); (try simp (disch := omega) only [w64, w32, wu8] at *)); unfold IsV; omega))
theorem variableR (op n : Int) (s : ByteArray) (k : Nat) (C : Nat → Int) (N : Nat → Nat) (W Q : Nat → Nat → Int) (m : Nat) (G : Nat → Nat → D) : VFun (P ()) 85 [tml op n s k C N W Q m G] (fun r => ∃ b : Bool, (b = true ↔ IsV op n) ∧ r = .d (.bool b)) := by
  refine vfunL (Tf := fun {_} _ => fzT [1] (T ())) (fun {_} => tabOk.frz [1]) [] 400 Tryd.func85 rfl (fun {_} => by kernel_rfl) rfl (Nat.le_of_ble_eq_true rfl) @fun ⟨_, _, _, _, _, _, _, _, _, _, _, _, _, _, _, _, _, _, _, _, _, _, _, _, _, _, _, _, _, _, _, _, _, _, _, _, _, _, wp, wf⟩ R hR => ?_
  cbv
  try simp only [wp, (show ∀ n : Nat, _ = n from fun n => wf.2.2.2.2.2.2.2.2.2.2.2.2.2.1 (Int.ofNat n)), getL, takeL, dropL, TK.isAgg, reduceIte]
  replace hR := fun b H h => hR _ H (.d (.bool b)) (.d _) ⟨b, h, rfl⟩
  repeat' first | (with_reducible refine And.intro ?_ ?_) | intro c9 | (refine Later.mk ?_; cbv; try simp only [wp, (show ∀ n : Nat, _ = n from fun n => wf.2.2.2.2.2.2.2.2.2.2.2.2.2.1 (Int.ofNat n)), (show _ = (0 : Nat) from wf.2.2.2.2.2.2.2.2.2.2.2.2.2.1 0), getL, takeL, dropL, TK.isAgg, reduceIte])
  all_goals first
    | exact hR true _ (iffT (by clear hR; ((try simp only [wf, nc, nc', Int.toNat_natCast, bsz, ByteArray.size_append, List.length_cons, List.length_nil] at *); (try simp (disch := omega) only [w64, w32, wu8] at *)); unfold IsV; omega))
    | exact hR false _ (iffF (by clear hR; ((try simp only [wf, nc, nc', Int.toNat_natCast, bsz, ByteArray.size_append, List.length_cons, List.length_nil] at *); (try simp (disch := omega) only [w64, w32, wu8] at *)); unfold IsV; omega))
/-- the objects that a shift works with -/
abbrev hpSh (frm by' : Int) (y : Bool) : AHeap := [.box [.d (.int .i64 frm)], .box [.d (.int .i64 by')], .box [.d (.bool y)]]
set_option maxHeartbeats 1000000 in
theorem shift1 (frm by' d : Int) (y : Bool) (op n : Int) (s : ByteArray) (k : Nat) (C : Nat → Int) (N : Nat → Nat) (W Q : Nat → Nat → Int) (m : Nat) (G : Nat → Nat → D) (h1 : IsV op n) (h2 : 0 ≤ d ∧ d ≤ 8000000) (h3 : 0 ≤ frm ∧ frm ≤ 2147483648) (h4 : -2147483648 ≤ by' ∧ by' ≤ 2147483648) :
    VCalls (P ()) 52 [tml op n s k C N W Q m G, .d (.int .i64 d), .ptr 0 0, .ptr 1 0, .ptr 2 0] (hpSh frm by' y) (fun r H => ∃ K2, r = tml op (shN by' frm op n d) s k C N W Q m G ∧ H = hpSh frm by' (stSh by' frm n d y) ++ K2) := by
  obtain ⟨v1, v2, v3⟩ := h1
  have e1 : frm ≤ n - d → shN by' frm op n d = n + by' := fun h => by unfold shN; rw [if_pos ⟨⟨v1, v2, v3⟩, h⟩, clampI_eq (by omega)]
  have e2 : n - d < frm → shN by' frm op n d = n := fun h => by unfold shN; rw [if_neg fun h' => by have := h'.2; omega]
  have f1 : ∀ b, frm ≤ n - d → (b = true ↔ y = true ∧ frm ≤ n + by' - d) → stSh by' frm n d y = b := fun b h hb => by
    unfold stSh
    rw [if_pos h]
    exact Bool.eq_iff_iff.2 (by rw [hb, Bool.and_eq_true, decide_eq_true_iff])
  have f2 : n - d < frm → stSh by' frm n d y = y := fun h => by unfold stSh; rw [if_neg (by omega)]
  cases y
  · skip
    refine VCalls_of_Wl (Tf := fun {_} _ => fzT [] (T ())) (fun {_} => tabOk.frz []) [] 400 Tryd.func52 rfl (fun {_} => by kernel_rfl) (Nat.le_of_ble_eq_true rfl) @fun ⟨_, _, _, _, _, _, _, _, _, _, _, _, _, _, _, _, _, _, _, _, _, _, _, _, _, _, _, _, _, _, _, _, _, _, _, _, _, _, wp, wf⟩ nH R hnH hR => ?_
    subst hnH
    cbv
    try simp only [wp, (show ∀ n : Nat, _ = n from fun n => wf.2.2.2.2.2.2.2.2.2.2.2.2.2.1 (Int.ofNat n)), getL, takeL, dropL, TK.isAgg, reduceIte]
    have hA : frm ≤ n - d → ∀ K2 x b, n + by' = x → (b = true ↔ false = true ∧ frm ≤ n + by' - d) → R (tml op x s k C N W Q m G) (hpSh frm by' b ++ K2) := fun h K2 x b hx hb => hR _ _ ⟨K2, by rw [e1 h, hx], by rw [f1 b h hb]⟩
    have hB : n - d < frm → ∀ K2, R (tml op n s k C N W Q m G) (hpSh frm by' false ++ K2) := fun h K2 => hR _ _ ⟨K2, by rw [e2 h], by rw [f2 h]⟩
    clear hR e1 e2 f1 f2
    repeat' first | (with_reducible refine And.intro ?_ ?_) | intro c9 | (refine Later.mk ?_; cbv; try simp only [wp, (show ∀ n : Nat, _ = n from fun n => wf.2.2.2.2.2.2.2.2.2.2.2.2.2.1 (Int.ofNat n)), (show _ = (0 : Nat) from wf.2.2.2.2.2.2.2.2.2.2.2.2.2.1 0), getL, takeL, dropL, TK.isAgg, reduceIte])
    all_goals first
      | exact hB (by clear hA hB; exact (by (try simp only [wf, nc, nc', Int.toNat_natCast, bsz, ByteArray.size_append, List.length_cons, List.length_nil] at *); (try simp (disch := omega) only [w64, w32, wu8] at *); first | done | omega)) _
      | exact hA (by clear hA hB; exact (by (try simp only [wf, nc, nc', Int.toNat_natCast, bsz, ByteArray.size_append, List.length_cons, List.length_nil] at *); (try simp (disch := omega) only [w64, w32, wu8] at *); first | done | omega)) _ _ _ (by clear hA hB; exact (by (try simp only [wf, nc, nc', Int.toNat_natCast, bsz, ByteArray.size_append, List.length_cons, List.length_nil] at *); (try simp (disch := omega) only [w64, w32, wu8] at *); first | done | omega)) (iffF fun h => by cases h.1)
  · skip
    refine VCalls_of_Wl (Tf := fun {_} _ => fzT [] (T ())) (fun {_} => tabOk.frz []) [] 400 Tryd.func52 rfl (fun {_} => by kernel_rfl) (Nat.le_of_ble_eq_true rfl) @fun ⟨_, _, _, _, _, _, _, _, _, _, _, _, _, _, _, _, _, _, _, _, _, _, _, _, _, _, _, _, _, _, _, _, _, _, _, _, _, _, wp, wf⟩ nH R hnH hR => ?_
    subst hnH
    cbv
    try simp only [wp, (show ∀ n : Nat, _ = n from fun n => wf.2.2.2.2.2.2.2.2.2.2.2.2.2.1 (Int.ofNat n)), getL, takeL, dropL, TK.isAgg, reduceIte]
    have hA : frm ≤ n - d → ∀ K2 x b, n + by' = x → (b = true ↔ true = true ∧ frm ≤ n + by' - d) → R (tml op x s k C N W Q m G) (hpSh frm by' b ++ K2) := fun h K2 x b hx hb => hR _ _ ⟨K2, by rw [e1 h, hx], by rw [f1 b h hb]⟩
    have hB : n - d < frm → ∀ K2, R (tml op n s k C N W Q m G) (hpSh frm by' true ++ K2) := fun h K2 => hR _ _ ⟨K2, by rw [e2 h], by rw [f2 h]⟩
    clear hR e1 e2 f1 f2
    repeat' first | (with_reducible refine And.intro ?_ ?_) | intro c9 | (refine Later.mk ?_; cbv; try simp only [wp, (show ∀ n : Nat, _ = n from fun n => wf.2.2.2.2.2.2.2.2.2.2.2.2.2.1 (Int.ofNat n)), (show _ = (0 : Nat) from wf.2.2.2.2.2.2.2.2.2.2.2.2.2.1 0), getL, takeL, dropL, TK.isAgg, reduceIte])
    all_goals first
      | exact hB (by clear hA hB; exact (by (try simp only [wf, nc, nc', Int.toNat_natCast, bsz, ByteArray.size_append, List.length_cons, List.length_nil] at *); (try simp (disch := omega) only [w64, w32, wu8] at *); first | done | omega)) _
      | exact hA (by clear hA hB; exact (by (try simp only [wf, nc, nc', Int.toNat_natCast, bsz, ByteArray.size_append, List.length_cons, List.length_nil] at *); (try simp (disch := omega) only [w64, w32, wu8] at *); first | done | omega)) _ _ _ (by clear hA hB; exact (by (try simp only [wf, nc, nc', Int.toNat_natCast, bsz, ByteArray.size_append, List.length_cons, List.length_nil] at *); (try simp (disch := omega) only [w64, w32, wu8] at *); first | done | omega)) (by clear hA hB; first | exact iffT ⟨rfl, (by (try simp only [wf, nc, nc', Int.toNat_natCast, bsz, ByteArray.size_append, List.length_cons, List.length_nil] at *); (try simp (disch := omega) only [w64, w32, wu8] at *); first | done | omega)⟩ | exact iffF fun h => (by have h := h.2; exact absurd h (by (try simp only [wf, nc, nc', Int.toNat_natCast, bsz, ByteArray.size_append, List.length_cons, List.length_nil] at *); (try simp (disch := omega) only [w64, w32, wu8] at *); first | done | omega)))
end Go.VM

namespace Go.VM
open Go.Proofs Go
set_option maxRecDepth 100000
set_option linter.unusedVariables false
set_option linter.unusedSimpArgs false
theorem CopyLevel (c : Int) (n : Nat) (V P0 : Nat → Int) (hn : n < 2 ^ 20) : VFun (P ()) 80 [lv c n V P0] (fun r => r = lv c n V P0) := by
  refine vfunO (Tf := fun {_} _ => fzT [1] (T ())) (fun {_} => tabOk.frz [1]) [] 400 Tryd.func80 rfl (fun {_} => by kernel_rfl) rfl (Nat.le_of_ble_eq_true rfl) @fun ⟨_, _, _, _, _, _, _, _, _, _, _, _, _, _, _, _, _, _, _, _, _, _, _, _, _, _, _, _, _, _, _, _, _, _, _, _, _, _, wp, wf⟩ R hR => ?_
  cbv
  try simp only [wp, (show ∀ n : Nat, _ = n from fun n => wf.2.2.2.2.2.2.2.2.2.2.2.2.2.1 (Int.ofNat n)), getL, takeL, dropL, TK.isAgg, reduceIte]
  replace hR := fun H r hf => hR r H (lv c n V P0) hf rfl
  refine loopO (Tf := fun {_} _ => fzT [1] (T ())) (fun {_} => tabOk.frz [1]) [] 400 (fun y : Nat => match y with
    | 0 => ⟨[.undef, .iptr (fun x j => getL [.int .i64 c, .sl n 2 (lvF V P0)] j .nilp) 0 0 2, .ptr 0 0, .ptr 1 0, .d (.int .i64 0), .undef, .undef, .undef, .undef, .undef, .undef, .undef, .undef, .undef, .undef, .undef, .undef, .undef, .undef, .undef, .undef, .undef, .undef, .undef, .undef, .undef], [.box [.d (.int .i64 0), .nils], .box [.d (.int .i64 c), .nils]]⟩
    | i + 1 => ⟨[.undef, .iptr (fun x j => getL [.int .i64 c, .sl n 2 (lvF V P0)] j .nilp) 0 0 2, .ptr 0 0, .ptr 1 0, .d (.int .i64 (i + 1 : Nat)), .undef, .undef, .undef, .undef, .undef, .undef, .undef, .undef, .undef, .undef, .undef, .undef, .undef, .undef, .undef, .undef, .undef, .undef, .undef, .undef, .undef], [.box [.d (.int .i64 0), .nils], .box [.d (.int .i64 c), .ref 3 0 (i + 1) 2], .dead, .arr (i + 1) 2 (lvF V P0) 0]⟩) (fun y => n - y) (fun y => y ≤ n) 0 (Nat.zero_le _) (fun {_} => by kernel_rfl) ?_ (fun i => by cases i <;> kernel_rfl) @fun ⟨_, _, _, _, _, _, _, _, _, _, _, _, _, _, _, _, _, _, _, _, _, _, _, _, _, _, _, _, _, _, _, _, _, _, _, _, _, _, wpa, wfa⟩ i Bk hi hBk => ?_
  · (cbv; try simp only [wf, exD, exL, exT, exB, exA, leLs, leL_d, leL_undef, leL_nils, leA_nils, deq_refl, deq_int, deq_bool, deq_str, and_true, true_and, AObj.iter.injEq, nc, nc']; try simp (disch := omega) only [w64, w32, wu8])
    exact ⟨rfl, rfl⟩
  cases i with
  | zero =>
    (cbv; try simp only [wp, (show ∀ n : Nat, _ = n from fun n => wf.2.2.2.2.2.2.2.2.2.2.2.2.2.1 (Int.ofNat n)), (show _ = (0 : Nat) from wf.2.2.2.2.2.2.2.2.2.2.2.2.2.1 0), wpa, (show ∀ n : Nat, _ = n from fun n => wfa.2.2.2.2.2.2.2.2.2.2.2.2.2.1 (Int.ofNat n)), (show _ = (0 : Nat) from wfa.2.2.2.2.2.2.2.2.2.2.2.2.2.1 0), getL, takeL, dropL, TK.isAgg, reduceIte])
    refine ⟨fun e => ?_, fun e => ?_⟩
    · have e : 0 < n := (by (try simp only [wf, wfa, nc, nc', Int.toNat_natCast, bsz, ByteArray.size_append, List.length_cons, List.length_nil] at *); (try simp (disch := omega) only [w64, w32, wu8] at *); first | done | omega)
      (refine Later.mk ?_; cbv; try simp only [wp, (show ∀ n : Nat, _ = n from fun n => wf.2.2.2.2.2.2.2.2.2.2.2.2.2.1 (Int.ofNat n)), (show _ = (0 : Nat) from wf.2.2.2.2.2.2.2.2.2.2.2.2.2.1 0), wpa, (show ∀ n : Nat, _ = n from fun n => wfa.2.2.2.2.2.2.2.2.2.2.2.2.2.1 (Int.ofNat n)), (show _ = (0 : Nat) from wfa.2.2.2.2.2.2.2.2.2.2.2.2.2.1 0), getL, takeL, dropL, TK.isAgg, reduceIte])
      repeat' first | with_reducible refine And.intro ?_ ?_ | intro c9
      all_goals first | exact (by (try simp only [wf, wfa, nc, nc', Int.toNat_natCast, bsz, ByteArray.size_append, List.length_cons, List.length_nil] at *); (try simp (disch := omega) only [w64, w32, wu8] at *); first | done | omega) | trivial | skip
      all_goals
        refine hBk 1 _ (by omega) (by omega) ?_
        (cbv; try simp only [wf, wfa, exD, exL, exT, exB, exA, leLs, leL_d, leL_undef, leL_nils, leA_nils, deq_refl, deq_int, deq_bool, deq_str, and_true, true_and, AObj.iter.injEq, nc, nc']; try simp (disch := omega) only [w64, w32, wu8])
        exact ⟨rfl, rfl, rfl, Nat.le_refl _, Nat.zero_le _, fun x j hx hj => .of_eq (by
          obtain rfl : x = 0 := by omega
          match j, hj with
          | 0, _ => rfl
          | 1, _ => rfl)⟩
    · obtain rfl : n = 0 := by have : n ≤ 0 := (by (try simp only [wf, wfa, nc, nc', Int.toNat_natCast, bsz, ByteArray.size_append, List.length_cons, List.length_nil] at *); (try simp (disch := omega) only [w64, w32, wu8] at *); first | done | omega); omega
      (refine Later.mk ?_; cbv; try simp only [wp, (show ∀ n : Nat, _ = n from fun n => wf.2.2.2.2.2.2.2.2.2.2.2.2.2.1 (Int.ofNat n)), (show _ = (0 : Nat) from wf.2.2.2.2.2.2.2.2.2.2.2.2.2.1 0), wpa, (show ∀ n : Nat, _ = n from fun n => wfa.2.2.2.2.2.2.2.2.2.2.2.2.2.1 (Int.ofNat n)), (show _ = (0 : Nat) from wfa.2.2.2.2.2.2.2.2.2.2.2.2.2.1 0), getL, takeL, dropL, TK.isAgg, reduceIte])
      exact hR _ _ (.agg2 (.d _) (.nils _ _))
  | succ i =>
    (cbv; try simp only [wp, (show ∀ n : Nat, _ = n from fun n => wf.2.2.2.2.2.2.2.2.2.2.2.2.2.1 (Int.ofNat n)), (show _ = (0 : Nat) from wf.2.2.2.2.2.2.2.2.2.2.2.2.2.1 0), wpa, (show ∀ n : Nat, _ = n from fun n => wfa.2.2.2.2.2.2.2.2.2.2.2.2.2.1 (Int.ofNat n)), (show _ = (0 : Nat) from wfa.2.2.2.2.2.2.2.2.2.2.2.2.2.1 0), getL, takeL, dropL, TK.isAgg, reduceIte])
    refine ⟨fun e => ?_, fun e => ?_⟩
    · have e : i + 1 < n := (by (try simp only [wf, wfa, nc, nc', Int.toNat_natCast, bsz, ByteArray.size_append, List.length_cons, List.length_nil] at *); (try simp (disch := omega) only [w64, w32, wu8] at *); first | done | omega)
      (refine Later.mk ?_; cbv; try simp only [wp, (show ∀ n : Nat, _ = n from fun n => wf.2.2.2.2.2.2.2.2.2.2.2.2.2.1 (Int.ofNat n)), (show _ = (0 : Nat) from wf.2.2.2.2.2.2.2.2.2.2.2.2.2.1 0), wpa, (show ∀ n : Nat, _ = n from fun n => wfa.2.2.2.2.2.2.2.2.2.2.2.2.2.1 (Int.ofNat n)), (show _ = (0 : Nat) from wfa.2.2.2.2.2.2.2.2.2.2.2.2.2.1 0), getL, takeL, dropL, TK.isAgg, reduceIte])
      repeat' first | with_reducible refine And.intro ?_ ?_ | intro c9
      all_goals first | exact (by (try simp only [wf, wfa, nc, nc', Int.toNat_natCast, bsz, ByteArray.size_append, List.length_cons, List.length_nil] at *); (try simp (disch := omega) only [w64, w32, wu8] at *); first | done | omega) | trivial | skip
      all_goals
        refine hBk (i + 2) _ (by omega) (by omega) ?_
        (cbv; try simp only [wf, wfa, exD, exL, exT, exB, exA, leLs, leL_d, leL_undef, leL_nils, leA_nils, deq_refl, deq_int, deq_bool, deq_str, and_true, true_and, AObj.iter.injEq, nc, nc']; try simp (disch := omega) only [w64, w32, wu8])
        exact ⟨rfl, rfl, rfl, Nat.le_refl _, Nat.zero_le _, fun x j hx hj => .of_eq (app_row2 (g' := lvF V P0) (fun _ _ _ _ => rfl) (fun j hj => by
          match j, hj with
          | 0, _ => rfl
          | 1, _ => rfl) x j hx hj)⟩
    · obtain rfl : n = i + 1 := by have : n ≤ i + 1 := (by (try simp only [wf, wfa, nc, nc', Int.toNat_natCast, bsz, ByteArray.size_append, List.length_cons, List.length_nil] at *); (try simp (disch := omega) only [w64, w32, wu8] at *); first | done | omega); omega
      (refine Later.mk ?_; cbv; try simp only [wp, (show ∀ n : Nat, _ = n from fun n => wf.2.2.2.2.2.2.2.2.2.2.2.2.2.1 (Int.ofNat n)), (show _ = (0 : Nat) from wf.2.2.2.2.2.2.2.2.2.2.2.2.2.1 0), wpa, (show ∀ n : Nat, _ = n from fun n => wfa.2.2.2.2.2.2.2.2.2.2.2.2.2.1 (Int.ofNat n)), (show _ = (0 : Nat) from wfa.2.2.2.2.2.2.2.2.2.2.2.2.2.1 0), getL, takeL, dropL, TK.isAgg, reduceIte])
      exact hR _ _ (.agg2 (.d _) (.ref0 _ _ _ _ _ _ rfl rfl))
end Go.VM

namespace Go.VM
open Go.Proofs Go
set_option maxRecDepth 100000
set_option linter.unusedVariables false
set_option linter.unusedSimpArgs false
theorem CopyLevels (k : Nat) (C : Nat → Int) (N : Nat → Nat) (W Q : Nat → Nat → Int) (hk : k < 2 ^ 30) (hN : ∀ i, i < k → N i < 2 ^ 20) : VFun (P ()) 49 [.d (.sl k 2 (lsF C N W Q))] (fun r => r = .d (.sl k 2 (lsF C N W Q))) := by
  refine vfunO (Tf := fun {_} _ => fzT [] (T ())) (fun {_} => tabOk.frz []) [] 400 Tryd.func49 rfl (fun {_} => by kernel_rfl) rfl (Nat.le_of_ble_eq_true rfl) @fun ⟨_, _, _, _, _, _, _, _, _, _, _, _, _, _, _, _, _, _, _, _, _, _, _, _, _, _, _, _, _, _, _, _, _, _, _, _, _, _, wp, wf⟩ R hR => ?_
  cbv
  try simp only [wp, (show ∀ n : Nat, _ = n from fun n => wf.2.2.2.2.2.2.2.2.2.2.2.2.2.1 (Int.ofNat n)), getL, takeL, dropL, TK.isAgg, reduceIte]
  replace hR := fun H r hf => hR r H (.d (.sl k 2 (lsF C N W Q))) hf rfl
  refine loopGhost 3 2 rfl ?_
  refine loopO (Tf := fun {_} _ => fzT [] (T ())) (fun {_} => tabOk.frz []) [] 400 (fun i : Nat => ⟨[.d (.sl k 2 (lsF C N W Q)), .undef, .undef, .ref 0 0 i 2, .d (.int .i64 i), .undef, .undef, .undef, .undef, .undef, .undef, .undef, .undef, .undef, .undef, .undef, .undef, .undef, .undef, .undef], [.arr i 2 (lsF C N W Q) 0]⟩) (fun i => k - i) (fun i => i ≤ k) 0 (Nat.zero_le _) (fun {_} => by kernel_rfl) ?_ (fun i => by kernel_rfl) @fun ⟨_, _, _, _, _, _, _, _, _, _, _, _, _, _, _, _, _, _, _, _, _, _, _, _, _, _, _, _, _, _, _, _, _, _, _, _, _, _, wpa, wfa⟩ i Bk hi hBk => ?_
  · (cbv; try simp only [wf, exD, exL, exT, exB, exA, leLs, leL_d, leL_undef, leL_nils, leA_nils, deq_refl, deq_int, deq_bool, deq_str, and_true, true_and, AObj.iter.injEq, nc, nc']; try simp (disch := omega) only [w64, w32, wu8])
    exact ⟨rfl, Nat.le_refl _, Nat.le_refl _, fun i j hi => absurd hi (Nat.not_lt_zero _)⟩
  (cbv; try simp only [wp, (show ∀ n : Nat, _ = n from fun n => wf.2.2.2.2.2.2.2.2.2.2.2.2.2.1 (Int.ofNat n)), (show _ = (0 : Nat) from wf.2.2.2.2.2.2.2.2.2.2.2.2.2.1 0), wpa, (show ∀ n : Nat, _ = n from fun n => wfa.2.2.2.2.2.2.2.2.2.2.2.2.2.1 (Int.ofNat n)), (show _ = (0 : Nat) from wfa.2.2.2.2.2.2.2.2.2.2.2.2.2.1 0), getL, takeL, dropL, TK.isAgg, reduceIte])
  refine ⟨fun e => ?_, fun e => ?_⟩
  · have e : i < k := (by (try simp only [wf, wfa, nc, nc', Int.toNat_natCast, bsz, ByteArray.size_append, List.length_cons, List.length_nil] at *); (try simp (disch := omega) only [w64, w32, wu8] at *); first | done | omega)
    have hl := CopyLevel (C i) (N i) (W i) (Q i) (hN i e)
    (refine Later.mk ?_; cbv; try simp only [wp, (show ∀ n : Nat, _ = n from fun n => wf.2.2.2.2.2.2.2.2.2.2.2.2.2.1 (Int.ofNat n)), (show _ = (0 : Nat) from wf.2.2.2.2.2.2.2.2.2.2.2.2.2.1 0), wpa, (show ∀ n : Nat, _ = n from fun n => wfa.2.2.2.2.2.2.2.2.2.2.2.2.2.1 (Int.ofNat n)), (show _ = (0 : Nat) from wfa.2.2.2.2.2.2.2.2.2.2.2.2.2.1 0), getL, takeL, dropL, TK.isAgg, reduceIte])
    repeat' first | with_reducible refine And.intro ?_ ?_ | intro c9
    all_goals first | exact (by (try simp only [wf, wfa, nc, nc', Int.toNat_natCast, bsz, ByteArray.size_append, List.length_cons, List.length_nil] at *); (try simp (disch := omega) only [w64, w32, wu8] at *); first | done | omega) | trivial | skip
    all_goals
      refine hl.call ?_
      rintro _ rfl
      (cbv; try simp only [wp, (show ∀ n : Nat, _ = n from fun n => wf.2.2.2.2.2.2.2.2.2.2.2.2.2.1 (Int.ofNat n)), (show _ = (0 : Nat) from wf.2.2.2.2.2.2.2.2.2.2.2.2.2.1 0), wpa, (show ∀ n : Nat, _ = n from fun n => wfa.2.2.2.2.2.2.2.2.2.2.2.2.2.1 (Int.ofNat n)), (show _ = (0 : Nat) from wfa.2.2.2.2.2.2.2.2.2.2.2.2.2.1 0), getL, takeL, dropL, TK.isAgg, reduceIte])
      repeat' first | trivial | with_reducible refine And.intro ?_ ?_ | intro c9
      all_goals first | exact Nat.zero_le _ | trivial | exact (by (try simp only [wf, wfa, nc, nc', Int.toNat_natCast, bsz, ByteArray.size_append, List.length_cons, List.length_nil] at *); (try simp (disch := omega) only [w64, w32, wu8] at *); first | done | omega) | refine hBk (i + 1) _ (by omega) (by omega) ?_
      (cbv; try simp only [wf, wfa, exD, exL, exT, exB, exA, leLs, leL_d, leL_undef, leL_nils, leA_nils, deq_refl, deq_int, deq_bool, deq_str, and_true, true_and, AObj.iter.injEq, nc, nc']; try simp (disch := omega) only [w64, w32, wu8])
      ((try simp only [wf, wfa, nc, nc', Int.toNat_natCast, bsz, ByteArray.size_append, List.length_cons, List.length_nil] at *); (try simp (disch := omega) only [w64, w32, wu8] at *))
      exact ⟨by omega, Nat.le_refl _, Nat.zero_le _, fun x j hx hj => .of_eq (app_row2 (g' := lsF C N W Q) (fun _ _ _ _ => rfl) (fun j hj => by
        match j, hj with
        | 0, _ => rfl
        | 1, _ => rfl) x j hx hj)⟩
  · obtain rfl : i = k := (by (try simp only [wf, wfa, nc, nc', Int.toNat_natCast, bsz, ByteArray.size_append, List.length_cons, List.length_nil] at *); (try simp (disch := omega) only [w64, w32, wu8] at *); first | done | omega)
    (refine Later.mk ?_; cbv; try simp only [wp, (show ∀ n : Nat, _ = n from fun n => wf.2.2.2.2.2.2.2.2.2.2.2.2.2.1 (Int.ofNat n)), (show _ = (0 : Nat) from wf.2.2.2.2.2.2.2.2.2.2.2.2.2.1 0), wpa, (show ∀ n : Nat, _ = n from fun n => wfa.2.2.2.2.2.2.2.2.2.2.2.2.2.1 (Int.ofNat n)), (show _ = (0 : Nat) from wfa.2.2.2.2.2.2.2.2.2.2.2.2.2.1 0), getL, takeL, dropL, TK.isAgg, reduceIte])
    exact hR _ _ (.ref0 0 i 2 i 0 _ rfl rfl)
theorem CopyTerms (m : Nat) (G : Nat → Nat → D) (hm : m < 2 ^ 30) (ih : ∀ i, i < m → VFun (P ()) 24 [kid G i] (fun r => r = kid G i)) : VFun (P ()) 50 [.d (.sl m 5 G)] (fun r => r = .d (.sl m 5 G)) := by
  refine vfunO (Tf := fun {_} _ => fzT [] (T ())) (fun {_} => tabOk.frz []) [] 400 Tryd.func50 rfl (fun {_} => by kernel_rfl) rfl (Nat.le_of_ble_eq_true rfl) @fun ⟨_, _, _, _, _, _, _, _, _, _, _, _, _, _, _, _, _, _, _, _, _, _, _, _, _, _, _, _, _, _, _, _, _, _, _, _, _, _, wp, wf⟩ R hR => ?_
  cbv
  try simp only [wp, (show ∀ n : Nat, _ = n from fun n => wf.2.2.2.2.2.2.2.2.2.2.2.2.2.1 (Int.ofNat n)), getL, takeL, dropL, TK.isAgg, reduceIte]
  replace hR := fun H r hf => hR r H (.d (.sl m 5 G)) hf rfl
  refine loopGhost 3 5 rfl ?_
  refine loopO (Tf := fun {_} _ => fzT [] (T ())) (fun {_} => tabOk.frz []) [] 400 (fun i : Nat => ⟨[.d (.sl m 5 G), .undef, .undef, .ref 0 0 i 5, .d (.int .i64 i), .undef, .undef, .undef, .undef, .undef, .undef, .undef, .undef, .undef, .undef, .undef, .undef, .undef, .undef, .undef], [.arr i 5 G 0]⟩) (fun i => m - i) (fun i => i ≤ m) 0 (Nat.zero_le _) (fun {_} => by kernel_rfl) ?_ (fun i => by kernel_rfl) @fun ⟨_, _, _, _, _, _, _, _, _, _, _, _, _, _, _, _, _, _, _, _, _, _, _, _, _, _, _, _, _, _, _, _, _, _, _, _, _, _, wpa, wfa⟩ i Bk hi hBk => ?_
  · (cbv; try simp only [wf, exD, exL, exT, exB, exA, leLs, leL_d, leL_undef, leL_nils, leA_nils, deq_refl, deq_int, deq_bool, deq_str, and_true, true_and, AObj.iter.injEq, nc, nc']; try simp (disch := omega) only [w64, w32, wu8])
    exact ⟨rfl, Nat.le_refl _, Nat.le_refl _, fun i j hi => absurd hi (Nat.not_lt_zero _)⟩
  (cbv; try simp only [wp, (show ∀ n : Nat, _ = n from fun n => wf.2.2.2.2.2.2.2.2.2.2.2.2.2.1 (Int.ofNat n)), (show _ = (0 : Nat) from wf.2.2.2.2.2.2.2.2.2.2.2.2.2.1 0), wpa, (show ∀ n : Nat, _ = n from fun n => wfa.2.2.2.2.2.2.2.2.2.2.2.2.2.1 (Int.ofNat n)), (show _ = (0 : Nat) from wfa.2.2.2.2.2.2.2.2.2.2.2.2.2.1 0), getL, takeL, dropL, TK.isAgg, reduceIte])
  refine ⟨fun e => ?_, fun e => ?_⟩
  · have e : i < m := (by (try simp only [wf, wfa, nc, nc', Int.toNat_natCast, bsz, ByteArray.size_append, List.length_cons, List.length_nil] at *); (try simp (disch := omega) only [w64, w32, wu8] at *); first | done | omega)
    have hl := ih i e
    (refine Later.mk ?_; cbv; try simp only [wp, (show ∀ n : Nat, _ = n from fun n => wf.2.2.2.2.2.2.2.2.2.2.2.2.2.1 (Int.ofNat n)), (show _ = (0 : Nat) from wf.2.2.2.2.2.2.2.2.2.2.2.2.2.1 0), wpa, (show ∀ n : Nat, _ = n from fun n => wfa.2.2.2.2.2.2.2.2.2.2.2.2.2.1 (Int.ofNat n)), (show _ = (0 : Nat) from wfa.2.2.2.2.2.2.2.2.2.2.2.2.2.1 0), getL, takeL, dropL, TK.isAgg, reduceIte])
    repeat' first | with_reducible refine And.intro ?_ ?_ | intro c9
    all_goals first | exact (by (try simp only [wf, wfa, nc, nc', Int.toNat_natCast, bsz, ByteArray.size_append, List.length_cons, List.length_nil] at *); (try simp (disch := omega) only [w64, w32, wu8] at *); first | done | omega) | trivial | skip
    all_goals
      refine hl.call ?_
      rintro _ rfl
      (cbv; try simp only [wp, (show ∀ n : Nat, _ = n from fun n => wf.2.2.2.2.2.2.2.2.2.2.2.2.2.1 (Int.ofNat n)), (show _ = (0 : Nat) from wf.2.2.2.2.2.2.2.2.2.2.2.2.2.1 0), wpa, (show ∀ n : Nat, _ = n from fun n => wfa.2.2.2.2.2.2.2.2.2.2.2.2.2.1 (Int.ofNat n)), (show _ = (0 : Nat) from wfa.2.2.2.2.2.2.2.2.2.2.2.2.2.1 0), getL, takeL, dropL, TK.isAgg, reduceIte])
      repeat' first | trivial | with_reducible refine And.intro ?_ ?_ | intro c9
      all_goals first | exact Nat.zero_le _ | trivial | exact (by (try simp only [wf, wfa, nc, nc', Int.toNat_natCast, bsz, ByteArray.size_append, List.length_cons, List.length_nil] at *); (try simp (disch := omega) only [w64, w32, wu8] at *); first | done | omega) | refine hBk (i + 1) _ (by omega) (by omega) ?_
      (cbv; try simp only [wf, wfa, exD, exL, exT, exB, exA, leLs, leL_d, leL_undef, leL_nils, leA_nils, deq_refl, deq_int, deq_bool, deq_str, and_true, true_and, AObj.iter.injEq, nc, nc']; try simp (disch := omega) only [w64, w32, wu8])
      ((try simp only [wf, wfa, nc, nc', Int.toNat_natCast, bsz, ByteArray.size_append, List.length_cons, List.length_nil] at *); (try simp (disch := omega) only [w64, w32, wu8] at *))
      exact ⟨by omega, Nat.le_refl _, Nat.zero_le _, fun x j hx hj => .of_eq (app_row2 (g' := G) (fun _ _ _ _ => rfl) (fun j hj => by
        match j, hj with
        | 0, _ | 1, _ | 2, _ | 3, _ | 4, _ => rfl) x j hx hj)⟩
  · obtain rfl : i = m := (by (try simp only [wf, wfa, nc, nc', Int.toNat_natCast, bsz, ByteArray.size_append, List.length_cons, List.length_nil] at *); (try simp (disch := omega) only [w64, w32, wu8] at *); first | done | omega)
    (refine Later.mk ?_; cbv; try simp only [wp, (show ∀ n : Nat, _ = n from fun n => wf.2.2.2.2.2.2.2.2.2.2.2.2.2.1 (Int.ofNat n)), (show _ = (0 : Nat) from wf.2.2.2.2.2.2.2.2.2.2.2.2.2.1 0), wpa, (show ∀ n : Nat, _ = n from fun n => wfa.2.2.2.2.2.2.2.2.2.2.2.2.2.1 (Int.ofNat n)), (show _ = (0 : Nat) from wfa.2.2.2.2.2.2.2.2.2.2.2.2.2.1 0), getL, takeL, dropL, TK.isAgg, reduceIte])
    exact hR _ _ (.ref0 0 i 5 i 0 _ rfl rfl)
theorem Frz.same5 [Glb] {H : AHeap} (a b c d e : D) : Frz H (.agg [.d a, .d b, .d c, .d d, .d e]) (.agg [.d a, .d b, .d c, .d d, .d e]) := .aggD [a, b, c, d, e]
/-- sizes that every walk bears -/
def Small (t : Tm) : Prop := nodesT t ≤ 100000
theorem Small.kid {op n : Int} {s : ByteArray} {k : Nat} {C : Nat → Int} {N : Nat → Nat} {W Q : Nat → Nat → Int} {m : Nat} {ok : TmOk op n s k N m} {K : Nat → Tm} (h : Small (.nd op n s k C N W Q m ok K)) : k + m ≤ 100000 ∧ (∀ i, i < k → N i ≤ 100000) ∧ ∀ i, i < m → Small (K i) := by
  unfold Small at h ⊢
  rw [nodesT_nd] at h
  have hk := sumF_ge (f := fun i => 1 + N i) (fun i => by omega) k
  have hm := sumF_ge (f := fun i => nodesT (K i)) (fun i => nodesT_pos _) m
  refine ⟨by omega, fun i hi => ?_, fun i hi => ?_⟩
  · have := sumF_one (f := fun i => 1 + N i) hi; omega
  · have := sumF_one (f := fun i => nodesT (K i)) hi; omega
theorem Light.small {t : Tm} {b : Nat} (h : Light t b) (hb : b ≤ 100000) : Small t := by have := h.1; unfold Small; omega
theorem CopyTerm (t : Tm) : Small t → VFun (P ()) 24 [tm t] (fun r => r = tm t) := by
  refine Tm.walk (P := fun t => Small t → VFun (P ()) 24 [tm t] (fun r => r = tm t)) ?_ t
  clear t
  intro op n s k C N W Q m ok K G hG e ih hs
  obtain ⟨h1, h2, h3⟩ := hs.kid
  rw [e]
  clear e hs
  have hc := CopyLevels k C N W Q (by omega) (fun i hi => by have := h2 i hi; omega)
  have ht := CopyTerms m G (by omega) (fun i hi => by have := ih i hi (h3 i hi); rwa [hG i hi] at this)
  refine vfunO (Tf := fun {_} _ => fzT [1] (T ())) (fun {_} => tabOk.frz [1]) [] 400 Tryd.func24 rfl (fun {_} => by kernel_rfl) rfl (Nat.le_of_ble_eq_true rfl) @fun ⟨_, _, _, _, _, _, _, _, _, _, _, _, _, _, _, _, _, _, _, _, _, _, _, _, _, _, _, _, _, _, _, _, _, _, _, _, _, _, wp, wf⟩ R hR => ?_
  cbv
  try simp only [wp, (show ∀ n : Nat, _ = n from fun n => wf.2.2.2.2.2.2.2.2.2.2.2.2.2.1 (Int.ofNat n)), getL, takeL, dropL, TK.isAgg, reduceIte]
  repeat' first | with_reducible refine And.intro ?_ ?_ | intro c9
  refine hc.call ?_
  rintro _ rfl
  (cbv; try simp only [wp, (show ∀ n : Nat, _ = n from fun n => wf.2.2.2.2.2.2.2.2.2.2.2.2.2.1 (Int.ofNat n)), (show _ = (0 : Nat) from wf.2.2.2.2.2.2.2.2.2.2.2.2.2.1 0), getL, takeL, dropL, TK.isAgg, reduceIte])
  repeat' first | with_reducible refine And.intro ?_ ?_ | intro c9
  refine ht.call ?_
  rintro _ rfl
  (cbv; try simp only [wp, (show ∀ n : Nat, _ = n from fun n => wf.2.2.2.2.2.2.2.2.2.2.2.2.2.1 (Int.ofNat n)), (show _ = (0 : Nat) from wf.2.2.2.2.2.2.2.2.2.2.2.2.2.1 0), getL, takeL, dropL, TK.isAgg, reduceIte])
  repeat' first | with_reducible refine And.intro ?_ ?_ | intro c9
  all_goals first | trivial | exact Nat.zero_le _ | exact hR _ _ _ (.same5 _ _ _ _ _) rfl
theorem EqLevels (k : Nat) (C : Nat → Int) (N : Nat → Nat) (W Q : Nat → Nat → Int) (hk : k < 2 ^ 30) (hN : ∀ i, i < k → N i < 2 ^ 20) : VFun (P ()) 54 [.d (.sl k 2 (lsF C N W Q)), .d (.sl k 2 (lsF C N W Q))] (fun r => r = .d (.bool true)) := by
  refine vfunO (Tf := fun {_} _ => fzT [] (T ())) (fun {_} => tabOk.frz []) [(6, upF 0 10)] 400 Tryd.func54 rfl (fun {_} => by kernel_rfl) rfl (Nat.le_of_ble_eq_true rfl) @fun ⟨_, _, _, _, _, _, _, _, _, _, _, _, _, _, _, _, _, _, _, _, _, _, _, _, _, _, _, _, _, _, _, _, _, _, _, _, _, _, wp, wf⟩ R hR => ?_
  cbv
  try simp only [wp, (show ∀ n : Nat, _ = n from fun n => wf.2.2.2.2.2.2.2.2.2.2.2.2.2.1 (Int.ofNat n)), getL, takeL, dropL, TK.isAgg, reduceIte]
  replace hR := fun H => hR (.d (.bool true)) H _ (.d (.bool true)) rfl
  repeat' first | (with_reducible refine And.intro ?_ ?_) | intro c9 | (exfalso; exact absurd rfl c9) | trivial | (refine Later.mk ?_; cbv; try simp only [wp, (show ∀ n : Nat, _ = n from fun n => wf.2.2.2.2.2.2.2.2.2.2.2.2.2.1 (Int.ofNat n)), (show _ = (0 : Nat) from wf.2.2.2.2.2.2.2.2.2.2.2.2.2.1 0), getL, takeL, dropL, TK.isAgg, reduceIte])
  refine loopO (Tf := fun {_} _ => fzT [] (T ())) (fun {_} => tabOk.frz []) [(6, upF 0 10)] 400 (fun i : Nat => ⟨[.d (.sl k 2 (lsF C N W Q)), .d (.sl k 2 (lsF C N W Q)), .undef, .undef, .d (.bool false), .d (.int .i64 i), .undef, .undef, .undef, .undef, .undef, .undef, .undef, .undef, .undef, .undef, .undef, .undef, .undef, .undef, .undef, .undef, .undef, .undef, .undef, .undef, .undef], []⟩) (fun i => k - i) (fun i => i ≤ k) 0 (Nat.zero_le _) (fun {_} => by kernel_rfl) ?_ (fun i => by kernel_rfl) @fun ⟨_, _, _, _, _, _, _, _, _, _, _, _, _, _, _, _, _, _, _, _, _, _, _, _, _, _, _, _, _, _, _, _, _, _, _, _, _, _, wpa, wfa⟩ i Bk hi hBk => ?_
  · ((cbv; try simp only [wf, exD, exL, exT, exB, exA, leLs, leL_d, leL_undef, leL_nils, leA_nils, deq_refl, deq_int, deq_bool, deq_str, and_true, true_and, AObj.iter.injEq, nc, nc']; try simp (disch := omega) only [w64, w32, wu8]); first | done | rfl | omega | (simp; done) | (simp; omega) | skip)
  (cbv; try simp only [wp, (show ∀ n : Nat, _ = n from fun n => wf.2.2.2.2.2.2.2.2.2.2.2.2.2.1 (Int.ofNat n)), (show _ = (0 : Nat) from wf.2.2.2.2.2.2.2.2.2.2.2.2.2.1 0), wpa, (show ∀ n : Nat, _ = n from fun n => wfa.2.2.2.2.2.2.2.2.2.2.2.2.2.1 (Int.ofNat n)), (show _ = (0 : Nat) from wfa.2.2.2.2.2.2.2.2.2.2.2.2.2.1 0), getL, takeL, dropL, TK.isAgg, reduceIte])
  refine ⟨fun e => ?_, fun e => ?_⟩
  · have e : i < k := (by (try simp only [wf, wfa, nc, nc', Int.toNat_natCast, bsz, ByteArray.size_append, List.length_cons, List.length_nil] at *); (try simp (disch := omega) only [w64, w32, wu8] at *); first | done | omega)
    have hl := EqLevel (C i) (C i) (N i) (N i) (W i) (Q i) (W i) (Q i) (by have := hN i e; omega) (by have := hN i e; omega)
    (refine Later.mk ?_; cbv; try simp only [wp, (show ∀ n : Nat, _ = n from fun n => wf.2.2.2.2.2.2.2.2.2.2.2.2.2.1 (Int.ofNat n)), (show _ = (0 : Nat) from wf.2.2.2.2.2.2.2.2.2.2.2.2.2.1 0), wpa, (show ∀ n : Nat, _ = n from fun n => wfa.2.2.2.2.2.2.2.2.2.2.2.2.2.1 (Int.ofNat n)), (show _ = (0 : Nat) from wfa.2.2.2.2.2.2.2.2.2.2.2.2.2.1 0), getL, takeL, dropL, TK.isAgg, reduceIte])
    repeat' first | with_reducible refine And.intro ?_ ?_ | intro c9
    all_goals first | exact (by (try simp only [wf, wfa, nc, nc', Int.toNat_natCast, bsz, ByteArray.size_append, List.length_cons, List.length_nil] at *); (try simp (disch := omega) only [w64, w32, wu8] at *); first | done | omega) | trivial | skip
    all_goals
      refine hl.call ?_
      rintro _ ⟨b, hb, rfl⟩
      obtain rfl := hb.2 ⟨rfl, rfl⟩
      (cbv; try simp only [wp, (show ∀ n : Nat, _ = n from fun n => wf.2.2.2.2.2.2.2.2.2.2.2.2.2.1 (Int.ofNat n)), (show _ = (0 : Nat) from wf.2.2.2.2.2.2.2.2.2.2.2.2.2.1 0), wpa, (show ∀ n : Nat, _ = n from fun n => wfa.2.2.2.2.2.2.2.2.2.2.2.2.2.1 (Int.ofNat n)), (show _ = (0 : Nat) from wfa.2.2.2.2.2.2.2.2.2.2.2.2.2.1 0), getL, takeL, dropL, TK.isAgg, reduceIte])
      repeat' first | with_reducible refine And.intro ?_ ?_ | intro c9
      all_goals (refine Later.mk ?_; cbv; try simp only [wp, (show ∀ n : Nat, _ = n from fun n => wf.2.2.2.2.2.2.2.2.2.2.2.2.2.1 (Int.ofNat n)), (show _ = (0 : Nat) from wf.2.2.2.2.2.2.2.2.2.2.2.2.2.1 0), wpa, (show ∀ n : Nat, _ = n from fun n => wfa.2.2.2.2.2.2.2.2.2.2.2.2.2.1 (Int.ofNat n)), (show _ = (0 : Nat) from wfa.2.2.2.2.2.2.2.2.2.2.2.2.2.1 0), getL, takeL, dropL, TK.isAgg, reduceIte])
      refine hBk (i + 1) _ (by omega) (by omega) ?_
      ((cbv; try simp only [wf, wfa, exD, exL, exT, exB, exA, leLs, leL_d, leL_undef, leL_nils, leA_nils, deq_refl, deq_int, deq_bool, deq_str, and_true, true_and, AObj.iter.injEq, nc, nc']; try simp (disch := omega) only [w64, w32, wu8]); first | done | rfl | omega | (simp; done) | (simp; omega) | skip)
  · obtain rfl : i = k := (by (try simp only [wf, wfa, nc, nc', Int.toNat_natCast, bsz, ByteArray.size_append, List.length_cons, List.length_nil] at *); (try simp (disch := omega) only [w64, w32, wu8] at *); first | done | omega)
    (refine Later.mk ?_; cbv; try simp only [wp, (show ∀ n : Nat, _ = n from fun n => wf.2.2.2.2.2.2.2.2.2.2.2.2.2.1 (Int.ofNat n)), (show _ = (0 : Nat) from wf.2.2.2.2.2.2.2.2.2.2.2.2.2.1 0), wpa, (show ∀ n : Nat, _ = n from fun n => wfa.2.2.2.2.2.2.2.2.2.2.2.2.2.1 (Int.ofNat n)), (show _ = (0 : Nat) from wfa.2.2.2.2.2.2.2.2.2.2.2.2.2.1 0), getL, takeL, dropL, TK.isAgg, reduceIte])
    exact hR _
theorem EqTerms (m : Nat) (G : Nat → Nat → D) (hm : m < 2 ^ 30) (ih : ∀ i, i < m → VFun (P ()) 27 [kid G i, kid G i] (fun r => r = .d (.bool true))) : VFun (P ()) 55 [.d (.sl m 5 G), .d (.sl m 5 G)] (fun r => r = .d (.bool true)) := by
  refine vfunO (Tf := fun {_} _ => fzT [] (T ())) (fun {_} => tabOk.frz []) [(6, upF 0 10)] 400 Tryd.func55 rfl (fun {_} => by kernel_rfl) rfl (Nat.le_of_ble_eq_true rfl) @fun ⟨_, _, _, _, _, _, _, _, _, _, _, _, _, _, _, _, _, _, _, _, _, _, _, _, _, _, _, _, _, _, _, _, _, _, _, _, _, _, wp, wf⟩ R hR => ?_
  cbv
  try simp only [wp, (show ∀ n : Nat, _ = n from fun n => wf.2.2.2.2.2.2.2.2.2.2.2.2.2.1 (Int.ofNat n)), getL, takeL, dropL, TK.isAgg, reduceIte]
  replace hR := fun H => hR (.d (.bool true)) H _ (.d (.bool true)) rfl
  repeat' first | (with_reducible refine And.intro ?_ ?_) | intro c9 | (exfalso; exact absurd rfl c9) | trivial | (refine Later.mk ?_; cbv; try simp only [wp, (show ∀ n : Nat, _ = n from fun n => wf.2.2.2.2.2.2.2.2.2.2.2.2.2.1 (Int.ofNat n)), (show _ = (0 : Nat) from wf.2.2.2.2.2.2.2.2.2.2.2.2.2.1 0), getL, takeL, dropL, TK.isAgg, reduceIte])
  refine loopO (Tf := fun {_} _ => fzT [] (T ())) (fun {_} => tabOk.frz []) [(6, upF 0 10)] 400 (fun i : Nat => ⟨[.d (.sl m 5 G), .d (.sl m 5 G), .undef, .undef, .d (.bool false), .d (.int .i64 i), .undef, .undef, .undef, .undef, .undef, .undef, .undef, .undef, .undef, .undef, .undef, .undef, .undef, .undef, .undef, .undef, .undef, .undef, .undef, .undef, .undef], []⟩) (fun i => m - i) (fun i => i ≤ m) 0 (Nat.zero_le _) (fun {_} => by kernel_rfl) ?_ (fun i => by kernel_rfl) @fun ⟨_, _, _, _, _, _, _, _, _, _, _, _, _, _, _, _, _, _, _, _, _, _, _, _, _, _, _, _, _, _, _, _, _, _, _, _, _, _, wpa, wfa⟩ i Bk hi hBk => ?_
  · ((cbv; try simp only [wf, exD, exL, exT, exB, exA, leLs, leL_d, leL_undef, leL_nils, leA_nils, deq_refl, deq_int, deq_bool, deq_str, and_true, true_and, AObj.iter.injEq, nc, nc']; try simp (disch := omega) only [w64, w32, wu8]); first | done | rfl | omega | (simp; done) | (simp; omega) | skip)
  (cbv; try simp only [wp, (show ∀ n : Nat, _ = n from fun n => wf.2.2.2.2.2.2.2.2.2.2.2.2.2.1 (Int.ofNat n)), (show _ = (0 : Nat) from wf.2.2.2.2.2.2.2.2.2.2.2.2.2.1 0), wpa, (show ∀ n : Nat, _ = n from fun n => wfa.2.2.2.2.2.2.2.2.2.2.2.2.2.1 (Int.ofNat n)), (show _ = (0 : Nat) from wfa.2.2.2.2.2.2.2.2.2.2.2.2.2.1 0), getL, takeL, dropL, TK.isAgg, reduceIte])
  refine ⟨fun e => ?_, fun e => ?_⟩
  · have e : i < m := (by (try simp only [wf, wfa, nc, nc', Int.toNat_natCast, bsz, ByteArray.size_append, List.length_cons, List.length_nil] at *); (try simp (disch := omega) only [w64, w32, wu8] at *); first | done | omega)
    have hl := ih i e
    (refine Later.mk ?_; cbv; try simp only [wp, (show ∀ n : Nat, _ = n from fun n => wf.2.2.2.2.2.2.2.2.2.2.2.2.2.1 (Int.ofNat n)), (show _ = (0 : Nat) from wf.2.2.2.2.2.2.2.2.2.2.2.2.2.1 0), wpa, (show ∀ n : Nat, _ = n from fun n => wfa.2.2.2.2.2.2.2.2.2.2.2.2.2.1 (Int.ofNat n)), (show _ = (0 : Nat) from wfa.2.2.2.2.2.2.2.2.2.2.2.2.2.1 0), getL, takeL, dropL, TK.isAgg, reduceIte])
    repeat' first | with_reducible refine And.intro ?_ ?_ | intro c9
    all_goals first | exact (by (try simp only [wf, wfa, nc, nc', Int.toNat_natCast, bsz, ByteArray.size_append, List.length_cons, List.length_nil] at *); (try simp (disch := omega) only [w64, w32, wu8] at *); first | done | omega) | trivial | skip
    all_goals
      refine hl.call ?_
      rintro _ rfl
      (cbv; try simp only [wp, (show ∀ n : Nat, _ = n from fun n => wf.2.2.2.2.2.2.2.2.2.2.2.2.2.1 (Int.ofNat n)), (show _ = (0 : Nat) from wf.2.2.2.2.2.2.2.2.2.2.2.2.2.1 0), wpa, (show ∀ n : Nat, _ = n from fun n => wfa.2.2.2.2.2.2.2.2.2.2.2.2.2.1 (Int.ofNat n)), (show _ = (0 : Nat) from wfa.2.2.2.2.2.2.2.2.2.2.2.2.2.1 0), getL, takeL, dropL, TK.isAgg, reduceIte])
      repeat' first | with_reducible refine And.intro ?_ ?_ | intro c9
      all_goals (refine Later.mk ?_; cbv; try simp only [wp, (show ∀ n : Nat, _ = n from fun n => wf.2.2.2.2.2.2.2.2.2.2.2.2.2.1 (Int.ofNat n)), (show _ = (0 : Nat) from wf.2.2.2.2.2.2.2.2.2.2.2.2.2.1 0), wpa, (show ∀ n : Nat, _ = n from fun n => wfa.2.2.2.2.2.2.2.2.2.2.2.2.2.1 (Int.ofNat n)), (show _ = (0 : Nat) from wfa.2.2.2.2.2.2.2.2.2.2.2.2.2.1 0), getL, takeL, dropL, TK.isAgg, reduceIte])
      refine hBk (i + 1) _ (by omega) (by omega) ?_
      ((cbv; try simp only [wf, wfa, exD, exL, exT, exB, exA, leLs, leL_d, leL_undef, leL_nils, leA_nils, deq_refl, deq_int, deq_bool, deq_str, and_true, true_and, AObj.iter.injEq, nc, nc']; try simp (disch := omega) only [w64, w32, wu8]); first | done | rfl | omega | (simp; done) | (simp; omega) | skip)
  · obtain rfl : i = m := (by (try simp only [wf, wfa, nc, nc', Int.toNat_natCast, bsz, ByteArray.size_append, List.length_cons, List.length_nil] at *); (try simp (disch := omega) only [w64, w32, wu8] at *); first | done | omega)
    (refine Later.mk ?_; cbv; try simp only [wp, (show ∀ n : Nat, _ = n from fun n => wf.2.2.2.2.2.2.2.2.2.2.2.2.2.1 (Int.ofNat n)), (show _ = (0 : Nat) from wf.2.2.2.2.2.2.2.2.2.2.2.2.2.1 0), wpa, (show ∀ n : Nat, _ = n from fun n => wfa.2.2.2.2.2.2.2.2.2.2.2.2.2.1 (Int.ofNat n)), (show _ = (0 : Nat) from wfa.2.2.2.2.2.2.2.2.2.2.2.2.2.1 0), getL, takeL, dropL, TK.isAgg, reduceIte])
    exact hR _
theorem EqTerm (t : Tm) : Small t → VFun (P ()) 27 [tm t, tm t] (fun r => r = .d (.bool true)) := by
  refine Tm.walk (P := fun t => Small t → VFun (P ()) 27 [tm t, tm t] (fun r => r = .d (.bool true))) ?_ t
  clear t
  intro op n s k C N W Q m ok K G hG e ih hs
  obtain ⟨h1, h2, h3⟩ := hs.kid
  rw [e]
  clear e hs
  have hc := EqLevels k C N W Q (by omega) (fun i hi => by have := h2 i hi; omega)
  have ht := EqTerms m G (by omega) (fun i hi => by have := ih i hi (h3 i hi); rwa [hG i hi] at this)
  refine vfunL (Tf := fun {_} _ => fzT [2, 3] (T ())) (fun {_} => tabOk.frz [2, 3]) [] 400 Tryd.func27 rfl (fun {_} => by kernel_rfl) rfl (Nat.le_of_ble_eq_true rfl) @fun ⟨_, _, _, _, _, _, _, _, _, _, _, _, _, _, _, _, _, _, _, _, _, _, _, _, _, _, _, _, _, _, _, _, _, _, _, _, _, _, wp, wf⟩ R hR => ?_
  cbv
  try simp only [wp, (show ∀ n : Nat, _ = n from fun n => wf.2.2.2.2.2.2.2.2.2.2.2.2.2.1 (Int.ofNat n)), getL, takeL, dropL, TK.isAgg, reduceIte]
  replace hR := fun H => hR (.d (.bool true)) H _ (.d (.bool true)) rfl
  repeat' first | (with_reducible refine And.intro ?_ ?_) | intro c9 | (exfalso; exact absurd rfl c9) | trivial | (refine Later.mk ?_; cbv; try simp only [wp, (show ∀ n : Nat, _ = n from fun n => wf.2.2.2.2.2.2.2.2.2.2.2.2.2.1 (Int.ofNat n)), (show _ = (0 : Nat) from wf.2.2.2.2.2.2.2.2.2.2.2.2.2.1 0), getL, takeL, dropL, TK.isAgg, reduceIte])
  refine hc.call ?_
  rintro _ rfl
  (cbv; try simp only [wp, (show ∀ n : Nat, _ = n from fun n => wf.2.2.2.2.2.2.2.2.2.2.2.2.2.1 (Int.ofNat n)), (show _ = (0 : Nat) from wf.2.2.2.2.2.2.2.2.2.2.2.2.2.1 0), getL, takeL, dropL, TK.isAgg, reduceIte])
  repeat' first | (with_reducible refine And.intro ?_ ?_) | intro c9 | (exfalso; exact absurd rfl c9) | trivial | (refine Later.mk ?_; cbv; try simp only [wp, (show ∀ n : Nat, _ = n from fun n => wf.2.2.2.2.2.2.2.2.2.2.2.2.2.1 (Int.ofNat n)), (show _ = (0 : Nat) from wf.2.2.2.2.2.2.2.2.2.2.2.2.2.1 0), getL, takeL, dropL, TK.isAgg, reduceIte])
  refine ht.call ?_
  rintro _ rfl
  (cbv; try simp only [wp, (show ∀ n : Nat, _ = n from fun n => wf.2.2.2.2.2.2.2.2.2.2.2.2.2.1 (Int.ofNat n)), (show _ = (0 : Nat) from wf.2.2.2.2.2.2.2.2.2.2.2.2.2.1 0), getL, takeL, dropL, TK.isAgg, reduceIte])
  repeat' first | (with_reducible refine And.intro ?_ ?_) | intro c9 | (exfalso; exact absurd rfl c9) | trivial | (refine Later.mk ?_; cbv; try simp only [wp, (show ∀ n : Nat, _ = n from fun n => wf.2.2.2.2.2.2.2.2.2.2.2.2.2.1 (Int.ofNat n)), (show _ = (0 : Nat) from wf.2.2.2.2.2.2.2.2.2.2.2.2.2.1 0), getL, takeL, dropL, TK.isAgg, reduceIte])
  all_goals exact hR _
end Go.VM
