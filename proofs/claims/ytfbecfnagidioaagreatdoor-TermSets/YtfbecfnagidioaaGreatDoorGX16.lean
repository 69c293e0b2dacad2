/- Part of the proof: TT8, TT48, LayBldT, TT7, TT9, MT4, TT14, TT16, TT17, TT0. -/
import Derived.Test.YtfbecfnagidioaaGreatDoorProg
import Derived.Shelf.Strings.BuilderF
import Derived.Test.YtfbecfnagidioaaGreatDoorGX15
import Derived.Test.YtfbecfnagidioaaGreatDoorGX11
import Derived.Test.YtfbecfnagidioaaGreatDoorGX14
import Derived.Test.YtfbecfnagidioaaGreatDoorGX12
import Derived.Test.YtfbecfnagidioaaGreatDoorGX7
import Derived.Test.YtfbecfnagidioaaGreatDoorGV5
import Derived.Test.YtfbecfnagidioaaGreatDoorGV6
import Derived.Test.YtfbecfnagidioaaGreatDoorGX13
import Derived.Test.YtfbecfnagidioaaGreatDoorGX8
namespace Go.VM
open Go.Proofs Go
set_option maxRecDepth 100000
set_option linter.unusedVariables false
set_option linter.unusedSimpArgs false
theorem form1 {G : Nat → Nat → D} {i : Nat} {F : Prop} (h : VFun (P ()) 71 [kid G i] (fun r => ∃ b : Bool, (b = true ↔ F) ∧ r = .d (.bool b))) : VFun (P ()) 126 [kid G i] (fun r => ∃ b : Bool, (b = true ↔ ¬ F) ∧ r = .d (.bool b)) := by
  refine vfunO (Tf := fun {_} _ => fzT [1] (T ())) (fun {_} => tabOk.frz [1]) [] 400 Tryz.func126 rfl (fun {_} => by kernel_rfl) rfl (Nat.le_of_ble_eq_true rfl) @fun ⟨_, _, _, _, _, _, _, _, _, _, _, _, _, _, _, _, _, _, _, _, _, _, _, _, _, _, _, _, _, _, _, _, _, _, _, _, _, _, wp, wf⟩ R hR => ?_
  cbv
  try simp only [wp, (show ∀ n : Nat, _ = n from fun n => wf.2.2.2.2.2.2.2.2.2.2.2.2.2.1 (Int.ofNat n)), getL, takeL, dropL, TK.isAgg, reduceIte]
  replace hR := fun b H h => hR _ H (.d (.bool b)) (.d _) ⟨b, h, rfl⟩
  refine h.call ?_
  rintro _ ⟨b, hb, rfl⟩
  rcases hb.dich with ⟨rfl, v⟩ | ⟨rfl, v⟩ <;> clear hb <;> (cbv; try simp only [wp, (show ∀ n : Nat, _ = n from fun n => wf.2.2.2.2.2.2.2.2.2.2.2.2.2.1 (Int.ofNat n)), (show _ = (0 : Nat) from wf.2.2.2.2.2.2.2.2.2.2.2.2.2.1 0), getL, takeL, dropL, TK.isAgg, reduceIte])
  · exact hR false _ (iffF fun h => h v)
  · exact hR true _ (iffT v)
theorem idxT (m : Nat) (G : Nat → Nat → D) (F : Nat → Prop) (hm : m < 2 ^ 62) (h : ∀ i, i < m → VFun (P ()) 71 [kid G i] (fun r => ∃ b : Bool, (b = true ↔ F i) ∧ r = .d (.bool b))) : VCalls (P ()) 169 [.d (.sl m 5 G), .clo 126 [] []] []
    (fun r H => ∃ x : Int, ((x = -1 ∧ ∀ i, i < m → F i) ∨ (0 ≤ x ∧ ∃ i, i < m ∧ ¬ F i)) ∧ r = .d (.int .i64 x)) := by
  refine VCalls_of_Wo (Tf := fun {_} _ => fzT [] (T ())) (fun {_} => tabOk.frz []) [] 400 Tryz.func169 rfl (fun {_} => by kernel_rfl) (Nat.le_of_ble_eq_true rfl) @fun ⟨_, _, _, _, _, _, _, _, _, _, _, _, _, _, _, _, _, _, _, _, _, _, _, _, _, _, _, _, _, _, _, _, _, _, _, _, _, _, wp, wf⟩ nH R hnH hR => ?_
  subst hnH
  cbv
  try simp only [wp, (show ∀ n : Nat, _ = n from fun n => wf.2.2.2.2.2.2.2.2.2.2.2.2.2.1 (Int.ofNat n)), getL, takeL, dropL, TK.isAgg, reduceIte]
  replace hR := fun x H h => hR (.d (.int .i64 x)) H ⟨x, h, rfl⟩
  refine loopO (Tf := fun {_} _ => fzT [] (T ())) (fun {_} => tabOk.frz []) [] 400 (fun i : Nat => ⟨[.d (.sl m 5 G), .clo 126 [] [], .undef, .undef, .d (.int .i64 0), .undef, .d (.sl m 5 G), .d (.int .i64 m), .d (.int .i64 i), .undef, .undef, .undef, .undef, .undef, .undef, .undef, .undef, .undef, .undef], []⟩) (fun i => m - i) (fun i => i ≤ m ∧ ∀ j, j < i → F j) 0 ⟨Nat.zero_le _, fun j hj => absurd hj (Nat.not_lt_zero _)⟩ (fun {_} => by kernel_rfl) ?_ (fun i => by kernel_rfl) @fun ⟨_, _, _, _, _, _, _, _, _, _, _, _, _, _, _, _, _, _, _, _, _, _, _, _, _, _, _, _, _, _, _, _, _, _, _, _, _, _, wpa, wfa⟩ i Bk hi hBk => ?_
  · ((cbv; try simp only [wf, exD, exL, exT, exB, exA, leLs, leL_d, leL_undef, leL_nils, leA_nils, deq_refl, deq_int, deq_bool, deq_str, and_true, true_and, AObj.iter.injEq, nc, nc']; try simp (disch := omega) only [w64, w32, wu8]); first | done | rfl | omega | (simp; done) | (simp; omega) | skip)
  obtain ⟨i1, i2⟩ := hi
  (cbv; try simp only [wp, (show ∀ n : Nat, _ = n from fun n => wf.2.2.2.2.2.2.2.2.2.2.2.2.2.1 (Int.ofNat n)), (show _ = (0 : Nat) from wf.2.2.2.2.2.2.2.2.2.2.2.2.2.1 0), wpa, (show ∀ n : Nat, _ = n from fun n => wfa.2.2.2.2.2.2.2.2.2.2.2.2.2.1 (Int.ofNat n)), (show _ = (0 : Nat) from wfa.2.2.2.2.2.2.2.2.2.2.2.2.2.1 0), getL, takeL, dropL, TK.isAgg, reduceIte])
  refine ⟨fun e1 => ?_, fun e1 => ?_⟩
  · have e1 : i < m := (by (try simp only [wf, wfa, nc, nc', Int.toNat_natCast, bsz, ByteArray.size_append, List.length_cons, List.length_nil] at *); (try simp (disch := omega) only [w64, w32, wu8] at *); first | done | omega)
    have hi := form1 (h i e1)
    (refine Later.mk ?_; cbv; try simp only [wp, (show ∀ n : Nat, _ = n from fun n => wf.2.2.2.2.2.2.2.2.2.2.2.2.2.1 (Int.ofNat n)), (show _ = (0 : Nat) from wf.2.2.2.2.2.2.2.2.2.2.2.2.2.1 0), wpa, (show ∀ n : Nat, _ = n from fun n => wfa.2.2.2.2.2.2.2.2.2.2.2.2.2.1 (Int.ofNat n)), (show _ = (0 : Nat) from wfa.2.2.2.2.2.2.2.2.2.2.2.2.2.1 0), getL, takeL, dropL, TK.isAgg, reduceIte])
    repeat' first | with_reducible refine And.intro ?_ ?_ | intro c9
    all_goals first | exact (by (try simp only [wf, wfa, nc, nc', Int.toNat_natCast, bsz, ByteArray.size_append, List.length_cons, List.length_nil] at *); (try simp (disch := omega) only [w64, w32, wu8] at *); first | done | omega) | trivial | skip
    refine hi.call ?_
    rintro _ ⟨b, hb, rfl⟩
    rcases hb.dich with ⟨rfl, v⟩ | ⟨rfl, v⟩ <;> clear hb <;> (cbv; try simp only [wp, (show ∀ n : Nat, _ = n from fun n => wf.2.2.2.2.2.2.2.2.2.2.2.2.2.1 (Int.ofNat n)), (show _ = (0 : Nat) from wf.2.2.2.2.2.2.2.2.2.2.2.2.2.1 0), wpa, (show ∀ n : Nat, _ = n from fun n => wfa.2.2.2.2.2.2.2.2.2.2.2.2.2.1 (Int.ofNat n)), (show _ = (0 : Nat) from wfa.2.2.2.2.2.2.2.2.2.2.2.2.2.1 0), getL, takeL, dropL, TK.isAgg, reduceIte]) <;> (refine Later.mk ?_; cbv; try simp only [wp, (show ∀ n : Nat, _ = n from fun n => wf.2.2.2.2.2.2.2.2.2.2.2.2.2.1 (Int.ofNat n)), (show _ = (0 : Nat) from wf.2.2.2.2.2.2.2.2.2.2.2.2.2.1 0), wpa, (show ∀ n : Nat, _ = n from fun n => wfa.2.2.2.2.2.2.2.2.2.2.2.2.2.1 (Int.ofNat n)), (show _ = (0 : Nat) from wfa.2.2.2.2.2.2.2.2.2.2.2.2.2.1 0), getL, takeL, dropL, TK.isAgg, reduceIte])
    · exact hR i _ (.inr ⟨Int.natCast_nonneg i, i, e1, v⟩)
    · refine hBk (i + 1) _ (by omega) ⟨by omega, fun j hj => ?_⟩ ?_
      · by_cases ej : j = i
        · subst ej; exact Classical.byContradiction v
        · exact i2 j (by omega)
      · ((cbv; try simp only [wf, wfa, exD, exL, exT, exB, exA, leLs, leL_d, leL_undef, leL_nils, leA_nils, deq_refl, deq_int, deq_bool, deq_str, and_true, true_and, AObj.iter.injEq, nc, nc']; try simp (disch := omega) only [w64, w32, wu8]); first | done | rfl | omega | (simp; done) | (simp; omega) | skip)
  · obtain rfl : i = m := (by (try simp only [wf, wfa, nc, nc', Int.toNat_natCast, bsz, ByteArray.size_append, List.length_cons, List.length_nil] at *); (try simp (disch := omega) only [w64, w32, wu8] at *); first | done | omega)
    (refine Later.mk ?_; cbv; try simp only [wp, (show ∀ n : Nat, _ = n from fun n => wf.2.2.2.2.2.2.2.2.2.2.2.2.2.1 (Int.ofNat n)), (show _ = (0 : Nat) from wf.2.2.2.2.2.2.2.2.2.2.2.2.2.1 0), wpa, (show ∀ n : Nat, _ = n from fun n => wfa.2.2.2.2.2.2.2.2.2.2.2.2.2.1 (Int.ofNat n)), (show _ = (0 : Nat) from wfa.2.2.2.2.2.2.2.2.2.2.2.2.2.1 0), getL, takeL, dropL, TK.isAgg, reduceIte])
    exact hR (-1) _ (.inl ⟨rfl, i2⟩)
theorem contT (m : Nat) (G : Nat → Nat → D) (F : Nat → Prop) (hm : m < 2 ^ 62) (h : ∀ i, i < m → VFun (P ()) 71 [kid G i] (fun r => ∃ b : Bool, (b = true ↔ F i) ∧ r = .d (.bool b))) : VFun (P ()) 125 [.d (.sl m 5 G), .clo 126 [] []]
    (fun r => ∃ b : Bool, (b = false ↔ ∀ i, i < m → F i) ∧ r = .d (.bool b)) := by
  have h1 : VFun (P ()) 169 [.d (.sl m 5 G), .clo 126 [] []] (fun r => ∃ x : Int, ((x = -1 ∧ ∀ i, i < m → F i) ∨ (0 ≤ x ∧ ∃ i, i < m ∧ ¬ F i)) ∧ r = .d (.int .i64 x)) :=
    (idxT m G F hm h).pure6 rfl rfl fun r H h => by
      obtain ⟨x, h1, rfl⟩ := h
      exact ⟨_, .keep _ (.d _), x, h1, rfl⟩
  refine VCalls.pure6 (R1 := fun r H => ∃ b : Bool, (b = false ↔ ∀ i, i < m → F i) ∧ r = .d (.bool b)) ?_ rfl rfl fun r H h => by
    obtain ⟨x, h1, rfl⟩ := h
    exact ⟨_, .keep _ (.d _), x, h1, rfl⟩
  refine VCalls_of_Wo (Tf := fun {_} _ => fzT [] (T ())) (fun {_} => tabOk.frz []) [] 400 Tryz.func125 rfl (fun {_} => by kernel_rfl) (Nat.le_of_ble_eq_true rfl) @fun ⟨_, _, _, _, _, _, _, _, _, _, _, _, _, _, _, _, _, _, _, _, _, _, _, _, _, _, _, _, _, _, _, _, _, _, _, _, _, _, wp, wf⟩ nH R hnH hR => ?_
  subst hnH
  cbv
  try simp only [wp, (show ∀ n : Nat, _ = n from fun n => wf.2.2.2.2.2.2.2.2.2.2.2.2.2.1 (Int.ofNat n)), getL, takeL, dropL, TK.isAgg, reduceIte]
  replace hR := fun b H h => hR (.d (.bool b)) H ⟨b, h, rfl⟩
  refine h1.call ?_
  rintro _ ⟨x, hx, rfl⟩
  (cbv; try simp only [wp, (show ∀ n : Nat, _ = n from fun n => wf.2.2.2.2.2.2.2.2.2.2.2.2.2.1 (Int.ofNat n)), (show _ = (0 : Nat) from wf.2.2.2.2.2.2.2.2.2.2.2.2.2.1 0), getL, takeL, dropL, TK.isAgg, reduceIte])
  repeat' first | (with_reducible refine And.intro ?_ ?_) | intro c9 | (refine Later.mk ?_; cbv; try simp only [wp, (show ∀ n : Nat, _ = n from fun n => wf.2.2.2.2.2.2.2.2.2.2.2.2.2.1 (Int.ofNat n)), (show _ = (0 : Nat) from wf.2.2.2.2.2.2.2.2.2.2.2.2.2.1 0), getL, takeL, dropL, TK.isAgg, reduceIte])
  · refine hR true _ ⟨fun h => (by cases h), fun h => ?_⟩
    rcases hx with ⟨rfl, _⟩ | ⟨_, i, hi, hn⟩
    · exact absurd c9 (by decide)
    · exact absurd (h i hi) hn
  · refine hR false _ ⟨fun _ => ?_, fun _ => rfl⟩
    rcases hx with ⟨_, h⟩ | ⟨h, _⟩
    · exact h
    · exact absurd c9 (by omega)
/-- what has its form -/
def FormT : Tm → Prop
  | .mk op n s k C N W Q m _ L => (NodeQ op n s k m ∧ ∀ i, i < k → CanP (C i) (N i) (W i) (Q i)) ∧ ∀ i : Fin m, FormT (L i)
theorem FormT_nd {op n : Int} {s : ByteArray} {k : Nat} {C : Nat → Int} {N : Nat → Nat} {W Q : Nat → Nat → Int} {m : Nat} {ok : TmOk op n s k N m} {K : Nat → Tm} :
    FormT (.nd op n s k C N W Q m ok K) ↔ (NodeQ op n s k m ∧ ∀ i, i < k → CanP (C i) (N i) (W i) (Q i)) ∧ ∀ i, i < m → FormT (K i) := by
  have e : FormT (.nd op n s k C N W Q m ok K) ↔ ((NodeQ op n s k m ∧ ∀ i, i < k → CanP (C i) (N i) (W i) (Q i)) ∧ ∀ i : Fin m, FormT (K i)) := by simp only [Tm.nd, FormT]
  rw [e]
  exact and_congr Iff.rfl ⟨fun h i hi => h ⟨i, hi⟩, fun h i => h i i.2⟩
theorem Form (t : Tm) : Light t 400 → VFun (P ()) 71 [tm t] (fun r => ∃ b : Bool, (b = true ↔ FormT t) ∧ r = .d (.bool b)) := by
  refine Tm.walk (P := fun t => Light t 400 → VFun (P ()) 71 [tm t] (fun r => ∃ b : Bool, (b = true ↔ FormT t) ∧ r = .d (.bool b))) ?_ t
  clear t
  intro op n s k C N W Q m ok K G hG e ih hl
  obtain ⟨l1, l2, l3, l4⟩ := hl.kid
  rw [e, FormT_nd]
  clear e hl
  have hc := contT m G (fun i => FormT (K i)) (by omega) fun i hi => by rw [← hG i hi]; exact ih i hi (l4 i hi)
  have hn := nodeT op n s k C N W Q m G (by omega) (by omega) (by omega) (fun i hi => by have := l3 i hi; omega)
  refine vfunO (Tf := fun {_} _ => fzT [1] (T ())) (fun {_} => tabOk.frz [1]) [] 400 Tryz.func71 rfl (fun {_} => by kernel_rfl) rfl (Nat.le_of_ble_eq_true rfl) @fun ⟨_, _, _, _, _, _, _, _, _, _, _, _, _, _, _, _, _, _, _, _, _, _, _, _, _, _, _, _, _, _, _, _, _, _, _, _, _, _, wp, wf⟩ R hR => ?_
  cbv
  try simp only [wp, (show ∀ n : Nat, _ = n from fun n => wf.2.2.2.2.2.2.2.2.2.2.2.2.2.1 (Int.ofNat n)), getL, takeL, dropL, TK.isAgg, reduceIte]
  replace hR := fun b H h => hR _ H (.d (.bool b)) (.d _) ⟨b, h, rfl⟩
  refine hn.call ?_
  rintro _ ⟨b, hb, rfl⟩
  rcases hb.dich with ⟨rfl, v⟩ | ⟨rfl, v⟩ <;> clear hb <;> (cbv; try simp only [wp, (show ∀ n : Nat, _ = n from fun n => wf.2.2.2.2.2.2.2.2.2.2.2.2.2.1 (Int.ofNat n)), (show _ = (0 : Nat) from wf.2.2.2.2.2.2.2.2.2.2.2.2.2.1 0), getL, takeL, dropL, TK.isAgg, reduceIte])
  · repeat' first | trivial | with_reducible refine And.intro ?_ ?_ | intro c9
    refine hc.call ?_
    rintro _ ⟨b, hb, rfl⟩
    cases b <;> (cbv; try simp only [wp, (show ∀ n : Nat, _ = n from fun n => wf.2.2.2.2.2.2.2.2.2.2.2.2.2.1 (Int.ofNat n)), (show _ = (0 : Nat) from wf.2.2.2.2.2.2.2.2.2.2.2.2.2.1 0), getL, takeL, dropL, TK.isAgg, reduceIte])
    · repeat' first | trivial | with_reducible refine And.intro ?_ ?_ | intro c9
      all_goals exact hR true _ (iffT ⟨v, hb.1 rfl⟩)
    · repeat' first | trivial | with_reducible refine And.intro ?_ ?_ | intro c9
      all_goals exact hR false _ (iffF fun h => by have := hb.2 h.2; cases this)
  · repeat' first | trivial | with_reducible refine And.intro ?_ ?_ | intro c9
    all_goals exact hR false _ (iffF fun h => v h.1)
/-- valid: the number of nodes is bounded by what is looked at -/
def ValidT (t : Tm) : Prop := depT t ≤ 200 ∧ FormT t
theorem Valid03 (t : Tm) (hl : Light t 400) : VFun (P ()) 38 [tm t] (fun r => ∃ b : Bool, (b = true ↔ ValidT t) ∧ r = .d (.bool b)) := by
  unfold ValidT
  have hc := Nat.le_trans (cntT_le t) hl.1
  have hd := Nat.le_trans (depT_le t) hl.1
  have h1 := Size t hl
  have h2 := Form t hl
  obtain ⟨x, hx⟩ : ∃ x, x = cntT t := ⟨_, rfl⟩
  obtain ⟨y, hy⟩ : ∃ y, y = depT t := ⟨_, rfl⟩
  rw [← hx] at hc h1
  rw [← hy] at hd h1 ⊢
  clear hx hy
  unfold tm at h1 h2 ⊢
  obtain ⟨f, hf⟩ : ∃ f, f = tmD t := ⟨_, rfl⟩
  rw [← hf] at h1 h2 ⊢
  refine vfunO (Tf := fun {_} _ => fzT [1] (T ())) (fun {_} => tabOk.frz [1]) [] 400 Tryz.func38 rfl (fun {_} => by kernel_rfl) rfl (Nat.le_of_ble_eq_true rfl) @fun ⟨_, _, _, _, _, _, _, _, _, _, _, _, _, _, _, _, _, _, _, _, _, _, _, _, _, _, _, _, _, _, _, _, _, _, _, _, _, _, wp, wf⟩ R hR => ?_
  cbv
  try simp only [wp, (show ∀ n : Nat, _ = n from fun n => wf.2.2.2.2.2.2.2.2.2.2.2.2.2.1 (Int.ofNat n)), getL, takeL, dropL, TK.isAgg, reduceIte]
  replace hR := fun b H h => hR _ H (.d (.bool b)) (.d _) ⟨b, h, rfl⟩
  refine h1.call ?_
  rintro _ rfl
  (cbv; try simp only [wp, (show ∀ n : Nat, _ = n from fun n => wf.2.2.2.2.2.2.2.2.2.2.2.2.2.1 (Int.ofNat n)), (show _ = (0 : Nat) from wf.2.2.2.2.2.2.2.2.2.2.2.2.2.1 0), getL, takeL, dropL, TK.isAgg, reduceIte])
  repeat' first | (with_reducible refine And.intro ?_ ?_) | intro c9 | (refine Later.mk ?_; cbv; try simp only [wp, (show ∀ n : Nat, _ = n from fun n => wf.2.2.2.2.2.2.2.2.2.2.2.2.2.1 (Int.ofNat n)), (show _ = (0 : Nat) from wf.2.2.2.2.2.2.2.2.2.2.2.2.2.1 0), getL, takeL, dropL, TK.isAgg, reduceIte])
  · refine h2.call ?_
    rintro _ ⟨b, hb, rfl⟩
    (cbv; try simp only [wp, (show ∀ n : Nat, _ = n from fun n => wf.2.2.2.2.2.2.2.2.2.2.2.2.2.1 (Int.ofNat n)), (show _ = (0 : Nat) from wf.2.2.2.2.2.2.2.2.2.2.2.2.2.1 0), getL, takeL, dropL, TK.isAgg, reduceIte])
    repeat' first | (with_reducible refine And.intro ?_ ?_) | intro c9 | (refine Later.mk ?_; cbv; try simp only [wp, (show ∀ n : Nat, _ = n from fun n => wf.2.2.2.2.2.2.2.2.2.2.2.2.2.1 (Int.ofNat n)), (show _ = (0 : Nat) from wf.2.2.2.2.2.2.2.2.2.2.2.2.2.1 0), getL, takeL, dropL, TK.isAgg, reduceIte])
    all_goals exact hR b _ (hb.trans ⟨fun h => ⟨(by (try simp only [wf, nc, nc', Int.toNat_natCast, bsz, ByteArray.size_append, List.length_cons, List.length_nil] at *); (try simp (disch := omega) only [w64, w32, wu8] at *); first | done | omega), h⟩, fun h => h.2⟩)
  · exact hR false _ (iffF fun h => absurd h.1 (by (try simp only [wf, nc, nc', Int.toNat_natCast, bsz, ByteArray.size_append, List.length_cons, List.length_nil] at *); (try simp (disch := omega) only [w64, w32, wu8] at *); first | done | omega))
  · exact absurd c9 (by (try simp only [wf, nc, nc', Int.toNat_natCast, bsz, ByteArray.size_append, List.length_cons, List.length_nil] at *); (try simp (disch := omega) only [w64, w32, wu8] at *); first | done | omega)
end Go.VM

namespace Go.VM
open Go.Proofs Go
set_option maxRecDepth 100000
set_option linter.unusedVariables false
set_option linter.unusedSimpArgs false
/-- a term whose levels are put in for themselves -/
theorem set_self (t : Tm) : FormT t → errT (subE 1200 (fun _ => 0) (fun _ => 1) selfW (fun _ _ => 0)) t = 0 ∧ ∀ j, Deq (tmD (setT (subG 1200 (fun _ => 0) (fun _ => 1) selfW (fun _ _ => 0)) t) j) (tmD t j) := by
  refine Tm.walk (P := fun t => FormT t → errT (subE 1200 (fun _ => 0) (fun _ => 1) selfW (fun _ _ => 0)) t = 0 ∧ ∀ j, Deq (tmD (setT (subG 1200 (fun _ => 0) (fun _ => 1) selfW (fun _ _ => 0)) t) j) (tmD t j)) ?_ t
  intro op n s k C N W Q m ok K G _ _ ih hF
  rw [FormT_nd] at hF
  obtain ⟨⟨_, hc⟩, hk⟩ := hF
  have hs := fun i hi => sub_self (hc i hi)
  have hi := fun i (h : i < m) => ih i h (hk i h)
  refine ⟨?_, fun j => ?_⟩
  · rw [errT_nd, if_neg]
    · exact firstF_zero.2 fun i h => (hi i h).1
    · rw [Decidable.not_not]
      exact firstF_zero.2 fun i h => (hs i h).1
  · rw [setT_nd]
    unfold Tm.nd
    match j with
    | 0 | 1 | 2 => simp only [tmD]; exact .refl _
    | 3 =>
      simp only [tmD]
      refine .sl _ _ _ _ fun i j h hj => ?_
      obtain ⟨_, e, l8⟩ := hs i h
      have e8 : fit8 (subG 1200 (fun _ => 0) (fun _ => 1) selfW (fun _ _ => 0) (C i) (N i) (W i) (Q i)) = (C i, lst (W i) (Q i) (N i)) := by
        rw [e, fit8_eq]
        show (lst (W i) (Q i) (N i)).length ≤ 8
        rw [lst_length]; exact l8
      match j with
      | 0 =>
        show Deq (.int .i64 (guC _ C N W Q i)) (.int .i64 (C i))
        unfold guC
        rw [e8]; exact .refl _
      | 1 =>
        show Deq (.sl (guN _ C N W Q i) 2 (lvF (guW _ C N W Q i) (guQ _ C N W Q i))) (.sl (N i) 2 (lvF (W i) (Q i)))
        have hn : guN (subG 1200 (fun _ => 0) (fun _ => 1) selfW (fun _ _ => 0)) C N W Q i = N i := by
          unfold guN; rw [e8]; exact lst_length _ _ _
        rw [hn]
        refine .sl _ _ _ _ fun x y hx hy => .of_eq ?_
        match y with
        | 0 =>
          show D.int .i64 (guW _ C N W Q i x) = .int .i64 (W i x)
          unfold guW
          rw [e8, List.getD_eq_getElem?_getD, lst_get (W i) (Q i) hx]
          rfl
        | 1 =>
          show D.int .i64 (guQ _ C N W Q i x) = .int .i64 (Q i x)
          unfold guQ
          rw [e8, List.getD_eq_getElem?_getD, lst_get (W i) (Q i) hx]
          rfl
    | j + 4 =>
      simp only [tmD]
      refine .sl _ _ _ _ fun i j h hj => ?_
      rw [dif_pos h, dif_pos h]
      exact (hi i h).2 j
end Go.VM

/- The kit's structures of strings.Builder's methods, at this program's own numbers. -/
set_option maxRecDepth 100000
namespace Go.Proofs
open Go.Shelf
def Tryz.bldRen : Go.Shelf.Ren := ⟨fun | 166 => 101 | 167 => 105 | 169 => 59 | 240 => 149 | 276 => 179 | n => n, fun | 0 => 0 | 3 => 3 | 4 => 4 | 5 => 5 | 9 => 9 | 20 => 20 | 37 => 76 | 70 => 75 | 72 => 78 | 75 => 116 | 80 => 80 | 127 => 123 | 164 => 177 | n => n, fun | n => n⟩
theorem Tryz.bld166 : Go.Proofs.Lays.n166 Tryz.prog Tryz.bldRen := {
  mixed := by kernel_rfl
  f166 := Tryz.func101.trans (congrArg some (by kernel_rfl))
  f240 := Tryz.func149.trans (congrArg some (by kernel_rfl))
  f276 := Tryz.func179.trans (congrArg some (by kernel_rfl))
  t0 := Tryz.underlying0
  a0 := Tryz.isAgg0
  z0 := Tryz.sizeOf0
  v0 := Tryz.zeroValue0
  t3 := Tryz.underlying3
  a3 := Tryz.isAgg3
  z3 := Tryz.sizeOf3
  v3 := Tryz.zeroValue3
  t4 := Tryz.underlying4
  a4 := Tryz.isAgg4
  z4 := Tryz.sizeOf4
  v4 := Tryz.zeroValue4
  t9 := Tryz.underlying9
  a9 := Tryz.isAgg9
  z9 := Tryz.sizeOf9
  v9 := Tryz.zeroValue9
  t20 := Tryz.underlying20
  a20 := Tryz.isAgg20
  z20 := Tryz.sizeOf20
  v20 := Tryz.zeroValue20
  t37 := Tryz.underlying76
  a37 := Tryz.isAgg76
  z37 := Tryz.sizeOf76
  v37 := Tryz.zeroValue76
  t70 := Tryz.underlying75
  a70 := Tryz.isAgg75
  z70 := Tryz.sizeOf75
  v70 := Tryz.zeroValue75
  t72 := Tryz.underlying78
  a72 := Tryz.isAgg78
  z72 := Tryz.sizeOf78
  v72 := Tryz.zeroValue78
  t75 := Tryz.underlying116
  a75 := Tryz.isAgg116
  z75 := Tryz.sizeOf116
  v75 := Tryz.zeroValue116
  t164 := Tryz.underlying177
  a164 := Tryz.isAgg177
  z164 := Tryz.sizeOf177
  v164 := Tryz.zeroValue177 }
theorem Tryz.bld167 : Go.Proofs.Lays.n167 Tryz.prog Tryz.bldRen := {
  mixed := by kernel_rfl
  f167 := Tryz.func105.trans (congrArg some (by kernel_rfl))
  f240 := Tryz.func149.trans (congrArg some (by kernel_rfl))
  f276 := Tryz.func179.trans (congrArg some (by kernel_rfl))
  t0 := Tryz.underlying0
  a0 := Tryz.isAgg0
  z0 := Tryz.sizeOf0
  v0 := Tryz.zeroValue0
  t4 := Tryz.underlying4
  a4 := Tryz.isAgg4
  z4 := Tryz.sizeOf4
  v4 := Tryz.zeroValue4
  t5 := Tryz.underlying5
  a5 := Tryz.isAgg5
  z5 := Tryz.sizeOf5
  v5 := Tryz.zeroValue5
  t9 := Tryz.underlying9
  a9 := Tryz.isAgg9
  z9 := Tryz.sizeOf9
  v9 := Tryz.zeroValue9
  t20 := Tryz.underlying20
  a20 := Tryz.isAgg20
  z20 := Tryz.sizeOf20
  v20 := Tryz.zeroValue20
  t37 := Tryz.underlying76
  a37 := Tryz.isAgg76
  z37 := Tryz.sizeOf76
  v37 := Tryz.zeroValue76
  t70 := Tryz.underlying75
  a70 := Tryz.isAgg75
  z70 := Tryz.sizeOf75
  v70 := Tryz.zeroValue75
  t72 := Tryz.underlying78
  a72 := Tryz.isAgg78
  z72 := Tryz.sizeOf78
  v72 := Tryz.zeroValue78
  t75 := Tryz.underlying116
  a75 := Tryz.isAgg116
  z75 := Tryz.sizeOf116
  v75 := Tryz.zeroValue116
  t164 := Tryz.underlying177
  a164 := Tryz.isAgg177
  z164 := Tryz.sizeOf177
  v164 := Tryz.zeroValue177 }
theorem Tryz.bld169 : Go.Proofs.Lays.n169 Tryz.prog Tryz.bldRen := {
  mixed := by kernel_rfl
  f169 := Tryz.func59.trans (congrArg some (by kernel_rfl))
  t0 := Tryz.underlying0
  a0 := Tryz.isAgg0
  z0 := Tryz.sizeOf0
  v0 := Tryz.zeroValue0
  t3 := Tryz.underlying3
  a3 := Tryz.isAgg3
  z3 := Tryz.sizeOf3
  v3 := Tryz.zeroValue3
  t9 := Tryz.underlying9
  a9 := Tryz.isAgg9
  z9 := Tryz.sizeOf9
  v9 := Tryz.zeroValue9
  t37 := Tryz.underlying76
  a37 := Tryz.isAgg76
  z37 := Tryz.sizeOf76
  v37 := Tryz.zeroValue76
  t70 := Tryz.underlying75
  a70 := Tryz.isAgg75
  z70 := Tryz.sizeOf75
  v70 := Tryz.zeroValue75
  t72 := Tryz.underlying78
  a72 := Tryz.isAgg78
  z72 := Tryz.sizeOf78
  v72 := Tryz.zeroValue78
  t127 := Tryz.underlying123
  a127 := Tryz.isAgg123
  z127 := Tryz.sizeOf123
  v127 := Tryz.zeroValue123 }
theorem Tryz.bldExtra : Go.Proofs.Builder.Extra Tryz.prog Tryz.bldRen := {
  sizeBuilder := by kernel_rfl
  liesBuilder := by kernel_rfl
  t5 := Tryz.underlying5
  a5 := Tryz.isAgg5
  z5 := Tryz.sizeOf5
  v5 := Tryz.zeroValue5
  infoByte := by kernel_rfl
  cellsByte := by kernel_rfl
  sizeByte := by kernel_rfl
  neB5 := by decide }
end Go.Proofs

namespace Go.VM
open Go.Proofs Go
set_option maxRecDepth 100000
set_option linter.unusedVariables false
set_option linter.unusedSimpArgs false
theorem small0 : VFun (P ()) 202 [.d (.int .i64 0)] (fun r => r = .d (.str ⟨⟨[48]⟩⟩)) := by
  refine vfunO (Tf := fun {_} _ => fzT [] (T ())) (fun {_} => tabOk.frz []) [] 400 Tryz.func202 rfl (fun {_} => by kernel_rfl) rfl (Nat.le_of_ble_eq_true rfl) @fun ⟨_, _, _, _, _, _, _, _, _, _, _, _, _, _, _, _, _, _, _, _, _, _, _, _, _, _, _, _, _, _, _, _, _, _, _, _, _, _, wp, wf⟩ R hR => ?_
  cbv
  try simp only [wp, (show ∀ n : Nat, _ = n from fun n => wf.2.2.2.2.2.2.2.2.2.2.2.2.2.1 (Int.ofNat n)), getL, takeL, dropL, TK.isAgg, reduceIte]
  refine ⟨fun _ => ?_, fun h => absurd h (by decide)⟩
  (refine Later.mk ?_; cbv; try simp only [wp, (show ∀ n : Nat, _ = n from fun n => wf.2.2.2.2.2.2.2.2.2.2.2.2.2.1 (Int.ofNat n)), (show _ = (0 : Nat) from wf.2.2.2.2.2.2.2.2.2.2.2.2.2.1 0), getL, takeL, dropL, TK.isAgg, reduceIte])
  refine ⟨by decide, (by (try simp only [wf, nc, nc', Int.toNat_natCast, bsz, ByteArray.size_append, List.length_cons, List.length_nil] at *); (try simp (disch := omega) only [w64, w32, wu8] at *); first | done | omega), ?_, ?_⟩
  · ((try simp only [wf, nc, nc', Int.toNat_natCast, bsz, ByteArray.size_append, List.length_cons, List.length_nil] at *); (try simp (disch := omega) only [w64, w32, wu8] at *))
    decide
  · ((try simp only [wf, nc, nc', Int.toNat_natCast, bsz, ByteArray.size_append, List.length_cons, List.length_nil] at *); (try simp (disch := omega) only [w64, w32, wu8] at *))
    exact hR _ _ _ (.d _) rfl
theorem fmt0 : VFun (P ()) 180 [.d (.int .i64 0), .d (.int .i64 10)] (fun r => r = .d (.str ⟨⟨[48]⟩⟩)) := by
  refine vfunO (Tf := fun {_} _ => fzT [] (T ())) (fun {_} => tabOk.frz []) [] 400 Tryz.func180 rfl (fun {_} => by kernel_rfl) rfl (Nat.le_of_ble_eq_true rfl) @fun ⟨_, _, _, _, _, _, _, _, _, _, _, _, _, _, _, _, _, _, _, _, _, _, _, _, _, _, _, _, _, _, _, _, _, _, _, _, _, _, wp, wf⟩ R hR => ?_
  cbv
  try simp only [wp, (show ∀ n : Nat, _ = n from fun n => wf.2.2.2.2.2.2.2.2.2.2.2.2.2.1 (Int.ofNat n)), getL, takeL, dropL, TK.isAgg, reduceIte]
  repeat' first | (with_reducible refine And.intro ?_ ?_) | intro c9 | (exact absurd c9 (by decide)) | (refine Later.mk ?_; cbv; try simp only [wp, (show ∀ n : Nat, _ = n from fun n => wf.2.2.2.2.2.2.2.2.2.2.2.2.2.1 (Int.ofNat n)), (show _ = (0 : Nat) from wf.2.2.2.2.2.2.2.2.2.2.2.2.2.1 0), getL, takeL, dropL, TK.isAgg, reduceIte])
  all_goals first
    | exact absurd c9 (by decide)
    | (refine small0.call ?_
       rintro _ rfl
       (cbv; try simp only [wp, (show ∀ n : Nat, _ = n from fun n => wf.2.2.2.2.2.2.2.2.2.2.2.2.2.1 (Int.ofNat n)), (show _ = (0 : Nat) from wf.2.2.2.2.2.2.2.2.2.2.2.2.2.1 0), getL, takeL, dropL, TK.isAgg, reduceIte])
       exact hR _ _ _ (.d _) rfl)
    | trace_state
theorem itoaI0 : VFun (P ()) 150 [.d (.int .i64 0)] (fun r => r = .d (.str ⟨⟨[48]⟩⟩)) := by
  refine vfunO (Tf := fun {_} _ => fzT [] (T ())) (fun {_} => tabOk.frz []) [] 400 Tryz.func150 rfl (fun {_} => by kernel_rfl) rfl (Nat.le_of_ble_eq_true rfl) @fun ⟨_, _, _, _, _, _, _, _, _, _, _, _, _, _, _, _, _, _, _, _, _, _, _, _, _, _, _, _, _, _, _, _, _, _, _, _, _, _, wp, wf⟩ R hR => ?_
  cbv
  try simp only [wp, (show ∀ n : Nat, _ = n from fun n => wf.2.2.2.2.2.2.2.2.2.2.2.2.2.1 (Int.ofNat n)), getL, takeL, dropL, TK.isAgg, reduceIte]
  refine fmt0.call ?_
  rintro _ rfl
  (cbv; try simp only [wp, (show ∀ n : Nat, _ = n from fun n => wf.2.2.2.2.2.2.2.2.2.2.2.2.2.1 (Int.ofNat n)), (show _ = (0 : Nat) from wf.2.2.2.2.2.2.2.2.2.2.2.2.2.1 0), getL, takeL, dropL, TK.isAgg, reduceIte])
  exact hR _ _ _ (.d _) rfl
theorem itoa0 : VFun (P ()) 103 [.d (.int .i64 0)] (fun r => r = .d (.str ⟨⟨[48]⟩⟩)) := by
  refine vfunO (Tf := fun {_} _ => fzT [] (T ())) (fun {_} => tabOk.frz []) [] 400 Tryz.func103 rfl (fun {_} => by kernel_rfl) rfl (Nat.le_of_ble_eq_true rfl) @fun ⟨_, _, _, _, _, _, _, _, _, _, _, _, _, _, _, _, _, _, _, _, _, _, _, _, _, _, _, _, _, _, _, _, _, _, _, _, _, _, wp, wf⟩ R hR => ?_
  cbv
  try simp only [wp, (show ∀ n : Nat, _ = n from fun n => wf.2.2.2.2.2.2.2.2.2.2.2.2.2.1 (Int.ofNat n)), getL, takeL, dropL, TK.isAgg, reduceIte]
  refine itoaI0.call ?_
  rintro _ rfl
  (cbv; try simp only [wp, (show ∀ n : Nat, _ = n from fun n => wf.2.2.2.2.2.2.2.2.2.2.2.2.2.1 (Int.ofNat n)), (show _ = (0 : Nat) from wf.2.2.2.2.2.2.2.2.2.2.2.2.2.1 0), getL, takeL, dropL, TK.isAgg, reduceIte])
  exact hR _ _ _ (.d _) rfl
theorem bel2 (x y : D) : Bel 1 (.tup [.d x, .d y]) := .tup _ (fun k hk => match k, hk with | 0, _ => .d _ | 1, _ => .d _)
theorem bWriteString {c s : ByteArray} {H : AHeap} {o : Nat} {R : A → AHeap → Prop} (hlim : c.size + s.size ≤ 140737488355328) (ho : getL H o .dead = .bld c)
    (hR : ∀ n c', n = (s.size : Int) → c' = c ++ s → R (.tup [.d (.int .i64 n), .d .nili]) (setL H o (.bld c'))) : CallW P 101 [.ptr o 0, .d (.str s)] H R :=
  CallW.of ((vc_WriteString (P := P ()) Tryz.bld166 Tryz.bldExtra rfl rfl c s hlim).bld (ds := [.str s]) (bel2 _ _) (fun _ => rfl) ho) (by rintro r H' ⟨rfl, rfl⟩; exact hR _ _ rfl rfl)
theorem bString {c : ByteArray} {H : AHeap} {o : Nat} {R : A → AHeap → Prop} (ho : getL H o .dead = .bld c)
    (hR : R (.d (.str c)) (setL H o (.bld c))) : CallW P 59 [.ptr o 0] H R :=
  CallW.of ((vc_String (P := P ()) Tryz.bld169 Tryz.bldExtra rfl rfl c).bld (ds := []) (.d _) (fun _ => rfl) ho) (by rintro r H' ⟨rfl, rfl⟩; exact hR)
theorem levels0 (g : Nat → Nat → D) (c : ByteArray) : VCalls (P ()) 102 [.ptr 0 0, .d (.sl 0 2 g)] [.bld c] (fun r H => r = .tup [] ∧ ∃ G, H = [.bld c] ++ G) := by
  refine VCalls_of_Wo (Tf := fun {_} _ => fzT [] (T ())) (fun {_} => tabOk.frz []) [] 400 Tryz.func102 rfl (fun {_} => by kernel_rfl) (Nat.le_of_ble_eq_true rfl) @fun ⟨_, _, _, _, _, _, _, _, _, _, _, _, _, _, _, _, _, _, _, _, _, _, _, _, _, _, _, _, _, _, _, _, _, _, _, _, _, _, wp, wf⟩ nH R hnH hR => ?_
  subst hnH
  cbv
  try simp only [wp, (show ∀ n : Nat, _ = n from fun n => wf.2.2.2.2.2.2.2.2.2.2.2.2.2.1 (Int.ofNat n)), getL, takeL, dropL, TK.isAgg, reduceIte]
  refine loopO (Tf := fun {_} _ => fzT [] (T ())) (fun {_} => tabOk.frz []) [] 400 (fun y : Unit => ⟨[.ptr 0 0, .d (.sl 0 2 g), .undef, .undef, .undef, .undef, .undef, .undef, .d (.sl 0 2 g), .d (.int .i64 0), .d (.int .i64 0), .undef, .undef, .undef, .undef, .undef, .undef, .undef, .undef, .undef, .undef, .undef, .undef, .undef, .undef, .undef, .undef, .undef, .undef, .undef, .undef, .undef, .undef, .undef, .undef], [.bld c]⟩) (fun y => 0) (fun y => True) () trivial (fun {_} => by kernel_rfl) ?_ (fun i => by kernel_rfl) @fun ⟨_, _, _, _, _, _, _, _, _, _, _, _, _, _, _, _, _, _, _, _, _, _, _, _, _, _, _, _, _, _, _, _, _, _, _, _, _, _, wpa, wfa⟩ _ Bk hi hBk => ?_
  · ((cbv; try simp only [wf, exD, exL, exT, exB, exA, leLs, leL_d, leL_undef, leL_nils, leA_nils, deq_refl, deq_int, deq_bool, deq_str, and_true, true_and, AObj.iter.injEq, nc, nc']; try simp (disch := omega) only [w64, w32, wu8]); first | done | rfl | omega | (simp; done) | (simp; omega) | skip)
  (cbv; try simp only [wp, (show ∀ n : Nat, _ = n from fun n => wf.2.2.2.2.2.2.2.2.2.2.2.2.2.1 (Int.ofNat n)), (show _ = (0 : Nat) from wf.2.2.2.2.2.2.2.2.2.2.2.2.2.1 0), wpa, (show ∀ n : Nat, _ = n from fun n => wfa.2.2.2.2.2.2.2.2.2.2.2.2.2.1 (Int.ofNat n)), (show _ = (0 : Nat) from wfa.2.2.2.2.2.2.2.2.2.2.2.2.2.1 0), getL, takeL, dropL, TK.isAgg, reduceIte])
  refine ⟨fun e => ?_, fun e => ?_⟩
  · exact absurd e (by (try simp only [wf, wfa, nc, nc', Int.toNat_natCast, bsz, ByteArray.size_append, List.length_cons, List.length_nil] at *); (try simp (disch := omega) only [w64, w32, wu8] at *); first | done | omega)
  · (refine Later.mk ?_; cbv; try simp only [wp, (show ∀ n : Nat, _ = n from fun n => wf.2.2.2.2.2.2.2.2.2.2.2.2.2.1 (Int.ofNat n)), (show _ = (0 : Nat) from wf.2.2.2.2.2.2.2.2.2.2.2.2.2.1 0), wpa, (show ∀ n : Nat, _ = n from fun n => wfa.2.2.2.2.2.2.2.2.2.2.2.2.2.1 (Int.ofNat n)), (show _ = (0 : Nat) from wfa.2.2.2.2.2.2.2.2.2.2.2.2.2.1 0), getL, takeL, dropL, TK.isAgg, reduceIte])
    repeat' first | (with_reducible refine And.intro ?_ ?_) | intro c9 | (refine Later.mk ?_; cbv; try simp only [wp, (show ∀ n : Nat, _ = n from fun n => wf.2.2.2.2.2.2.2.2.2.2.2.2.2.1 (Int.ofNat n)), (show _ = (0 : Nat) from wf.2.2.2.2.2.2.2.2.2.2.2.2.2.1 0), wpa, (show ∀ n : Nat, _ = n from fun n => wfa.2.2.2.2.2.2.2.2.2.2.2.2.2.1 (Int.ofNat n)), (show _ = (0 : Nat) from wfa.2.2.2.2.2.2.2.2.2.2.2.2.2.1 0), getL, takeL, dropL, TK.isAgg, reduceIte])
    all_goals first
      | exact hR _ _ ⟨rfl, [], rfl⟩
      | exact absurd c9 (by (try simp only [wf, wfa, nc, nc', Int.toNat_natCast, bsz, ByteArray.size_append, List.length_cons, List.length_nil] at *); (try simp (disch := omega) only [w64, w32, wu8] at *); first | done | omega)
theorem ba_empty (a : ByteArray) : a ++ (⟨⟨[]⟩⟩ : ByteArray) = a := ByteArray.ext (by simp [ByteArray.data_append])
/-- the bits of what an Op uses, as closed numbers -/
theorem wUnit (c : ByteArray) (hc : c.size ≤ 1000) : VCalls (P ()) 58 [.ptr 0 0, tml 12 0 ByteArray.empty 0 (fun _ => 0) (fun _ => 0) (fun _ _ => 0) (fun _ _ => 0) 0 (fun _ _ => .nilp)] [.bld c] (fun r H => r = .tup [] ∧ ∃ G, H = [.bld (c ++ ⟨⟨[117, 110, 105, 116]⟩⟩)] ++ G) := by
  refine VCalls_of_Wl (Tf := fun {_} _ => fzT [3] (T ())) (fun {_} => tabOk.frz [3]) [] 400 Tryz.func58 rfl (fun {_} => by kernel_rfl) (Nat.le_of_ble_eq_true rfl) @fun ⟨_, _, _, _, _, _, _, _, _, _, _, _, _, _, _, _, _, _, _, _, _, _, _, _, _, _, _, _, _, _, _, _, _, _, _, _, _, _, wp, wf⟩ nH R hnH hR => ?_
  subst hnH
  cbv
  try simp only [wp, (show ∀ n : Nat, _ = n from fun n => wf.2.2.2.2.2.2.2.2.2.2.2.2.2.1 (Int.ofNat n)), getL, takeL, dropL, TK.isAgg, reduceIte]
  refine of_12.call ?_
  rintro _ rfl
  (cbv; try simp only [wp, (show ∀ n : Nat, _ = n from fun n => wf.2.2.2.2.2.2.2.2.2.2.2.2.2.1 (Int.ofNat n)), (show _ = (0 : Nat) from wf.2.2.2.2.2.2.2.2.2.2.2.2.2.1 0), getL, takeL, dropL, TK.isAgg, reduceIte])
  have wb := fun y => wf.2.2.2.2.2.2.2.2.1 BinOp.and IntKind.i64 0 y
  have e2 : bitF .and .i64 0 2 = 0 := by decide
  have e8 : bitF .and .i64 0 8 = 0 := by decide
  have w2 := (wb 2).trans e2
  have w8 := (wb 8).trans e8
  repeat' first | (with_reducible refine And.intro ?_ ?_) | intro c9 | contradiction | (refine Later.mk ?_; cbv; try simp only [wp, (show ∀ n : Nat, _ = n from fun n => wf.2.2.2.2.2.2.2.2.2.2.2.2.2.1 (Int.ofNat n)), (show _ = (0 : Nat) from wf.2.2.2.2.2.2.2.2.2.2.2.2.2.1 0), getL, takeL, dropL, TK.isAgg, reduceIte])
  refine bWriteString (by have : (⟨⟨[117, 110, 105, 116]⟩⟩ : ByteArray).size = 4 := rfl; omega) rfl ?_
  intro n1 c1 h1 h2
  clear h1
  (cbv; try simp only [wp, (show ∀ n : Nat, _ = n from fun n => wf.2.2.2.2.2.2.2.2.2.2.2.2.2.1 (Int.ofNat n)), (show _ = (0 : Nat) from wf.2.2.2.2.2.2.2.2.2.2.2.2.2.1 0), getL, takeL, dropL, TK.isAgg, reduceIte])
  refine bWriteString (by rw [h2, ByteArray.size_append]; have : (⟨⟨[117, 110, 105, 116]⟩⟩ : ByteArray).size = 4 := rfl; have : (⟨⟨[]⟩⟩ : ByteArray).size = 0 := rfl; omega) rfl ?_
  intro n1 c2 h1 h3
  clear h1
  (cbv; try simp only [wp, (show ∀ n : Nat, _ = n from fun n => wf.2.2.2.2.2.2.2.2.2.2.2.2.2.1 (Int.ofNat n)), (show _ = (0 : Nat) from wf.2.2.2.2.2.2.2.2.2.2.2.2.2.1 0), getL, takeL, dropL, TK.isAgg, reduceIte])
  refine CallW.within (levels0 _ c2) [0] rfl ⟨rfl, trivial⟩ rfl ?_
  rintro _ _ ⟨rfl, G, rfl⟩
  refine ⟨[.bld c2], G, rfl, Nat.le_refl _, ⟨trivial, trivial⟩, rfl, ?_⟩
  (cbv; try simp only [wp, (show ∀ n : Nat, _ = n from fun n => wf.2.2.2.2.2.2.2.2.2.2.2.2.2.1 (Int.ofNat n)), (show _ = (0 : Nat) from wf.2.2.2.2.2.2.2.2.2.2.2.2.2.1 0), getL, takeL, dropL, TK.isAgg, reduceIte])
  repeat' first | (with_reducible refine And.intro ?_ ?_) | intro c9 | contradiction | (refine Later.mk ?_; cbv; try simp only [wp, (show ∀ n : Nat, _ = n from fun n => wf.2.2.2.2.2.2.2.2.2.2.2.2.2.1 (Int.ofNat n)), (show _ = (0 : Nat) from wf.2.2.2.2.2.2.2.2.2.2.2.2.2.1 0), getL, takeL, dropL, TK.isAgg, reduceIte])
  all_goals exact hR _ _ ⟨rfl, [_], by rw [h3, h2, ba_empty]; rfl⟩
/-- the variable 0 -/
theorem wVar (c : ByteArray) (hc : c.size ≤ 1000) : VCalls (P ()) 58 [.ptr 0 0, tml 1 0 ByteArray.empty 0 (fun _ => 0) (fun _ => 0) (fun _ _ => 0) (fun _ _ => 0) 0 (fun _ _ => .nilp)] [.bld c] (fun r H => r = .tup [] ∧ ∃ G, H = [.bld (c ++ ⟨⟨[35]⟩⟩ ++ ⟨⟨[48]⟩⟩)] ++ G) := by
  refine VCalls_of_Wl (Tf := fun {_} _ => fzT [3] (T ())) (fun {_} => tabOk.frz [3]) [] 400 Tryz.func58 rfl (fun {_} => by kernel_rfl) (Nat.le_of_ble_eq_true rfl) @fun ⟨_, _, _, _, _, _, _, _, _, _, _, _, _, _, _, _, _, _, _, _, _, _, _, _, _, _, _, _, _, _, _, _, _, _, _, _, _, _, wp, wf⟩ nH R hnH hR => ?_
  subst hnH
  cbv
  try simp only [wp, (show ∀ n : Nat, _ = n from fun n => wf.2.2.2.2.2.2.2.2.2.2.2.2.2.1 (Int.ofNat n)), getL, takeL, dropL, TK.isAgg, reduceIte]
  refine of_1.call ?_
  rintro _ rfl
  (cbv; try simp only [wp, (show ∀ n : Nat, _ = n from fun n => wf.2.2.2.2.2.2.2.2.2.2.2.2.2.1 (Int.ofNat n)), (show _ = (0 : Nat) from wf.2.2.2.2.2.2.2.2.2.2.2.2.2.1 0), getL, takeL, dropL, TK.isAgg, reduceIte])
  have wb := fun y => wf.2.2.2.2.2.2.2.2.1 BinOp.and IntKind.i64 8 y
  have e2 : bitF .and .i64 8 2 = 0 := by decide
  have e8 : bitF .and .i64 8 8 = 8 := by decide
  have w2 := (wb 2).trans e2
  have w8 := (wb 8).trans e8
  have z1 : (⟨⟨[35]⟩⟩ : ByteArray).size = 1 := rfl
  have z0 : (⟨⟨[]⟩⟩ : ByteArray).size = 0 := rfl
  have z2 : (⟨⟨[48]⟩⟩ : ByteArray).size = 1 := rfl
  repeat' first | (with_reducible refine And.intro ?_ ?_) | intro c9 | contradiction | (refine Later.mk ?_; cbv; try simp only [wp, (show ∀ n : Nat, _ = n from fun n => wf.2.2.2.2.2.2.2.2.2.2.2.2.2.1 (Int.ofNat n)), (show _ = (0 : Nat) from wf.2.2.2.2.2.2.2.2.2.2.2.2.2.1 0), getL, takeL, dropL, TK.isAgg, reduceIte])
  refine bWriteString (by omega) rfl ?_
  intro n1 c1 h1 h2
  clear h1
  have s1 : c1.size = c.size + 1 := by rw [h2, ByteArray.size_append]; omega
  (cbv; try simp only [wp, (show ∀ n : Nat, _ = n from fun n => wf.2.2.2.2.2.2.2.2.2.2.2.2.2.1 (Int.ofNat n)), (show _ = (0 : Nat) from wf.2.2.2.2.2.2.2.2.2.2.2.2.2.1 0), getL, takeL, dropL, TK.isAgg, reduceIte])
  refine bWriteString (by omega) rfl ?_
  intro n1 c2 h1 h3
  clear h1
  rw [ba_empty] at h3
  (cbv; try simp only [wp, (show ∀ n : Nat, _ = n from fun n => wf.2.2.2.2.2.2.2.2.2.2.2.2.2.1 (Int.ofNat n)), (show _ = (0 : Nat) from wf.2.2.2.2.2.2.2.2.2.2.2.2.2.1 0), getL, takeL, dropL, TK.isAgg, reduceIte])
  refine CallW.within (levels0 _ c2) [0] rfl ⟨rfl, trivial⟩ rfl ?_
  rintro _ _ ⟨rfl, G, rfl⟩
  refine ⟨[.bld c2], G, rfl, Nat.le_refl _, ⟨trivial, trivial⟩, rfl, ?_⟩
  (cbv; try simp only [wp, (show ∀ n : Nat, _ = n from fun n => wf.2.2.2.2.2.2.2.2.2.2.2.2.2.1 (Int.ofNat n)), (show _ = (0 : Nat) from wf.2.2.2.2.2.2.2.2.2.2.2.2.2.1 0), getL, takeL, dropL, TK.isAgg, reduceIte])
  repeat' first | (with_reducible refine And.intro ?_ ?_) | intro c9 | contradiction | (exfalso; omega) | (refine Later.mk ?_; cbv; try simp only [wp, (show ∀ n : Nat, _ = n from fun n => wf.2.2.2.2.2.2.2.2.2.2.2.2.2.1 (Int.ofNat n)), (show _ = (0 : Nat) from wf.2.2.2.2.2.2.2.2.2.2.2.2.2.1 0), getL, takeL, dropL, TK.isAgg, reduceIte])
  refine itoa0.call ?_
  rintro _ rfl
  (cbv; try simp only [wp, (show ∀ n : Nat, _ = n from fun n => wf.2.2.2.2.2.2.2.2.2.2.2.2.2.1 (Int.ofNat n)), (show _ = (0 : Nat) from wf.2.2.2.2.2.2.2.2.2.2.2.2.2.1 0), getL, takeL, dropL, TK.isAgg, reduceIte])
  refine bWriteString (by rw [h3]; omega) rfl ?_
  intro n1 c3 h1 h4
  (cbv; try simp only [wp, (show ∀ n : Nat, _ = n from fun n => wf.2.2.2.2.2.2.2.2.2.2.2.2.2.1 (Int.ofNat n)), (show _ = (0 : Nat) from wf.2.2.2.2.2.2.2.2.2.2.2.2.2.1 0), getL, takeL, dropL, TK.isAgg, reduceIte])
  repeat' first | (with_reducible refine And.intro ?_ ?_) | intro c9 | contradiction | (exfalso; omega) | (refine Later.mk ?_; cbv; try simp only [wp, (show ∀ n : Nat, _ = n from fun n => wf.2.2.2.2.2.2.2.2.2.2.2.2.2.1 (Int.ofNat n)), (show _ = (0 : Nat) from wf.2.2.2.2.2.2.2.2.2.2.2.2.2.1 0), getL, takeL, dropL, TK.isAgg, reduceIte])
  all_goals exact hR _ _ ⟨rfl, [_], by rw [h4, h3, h2]; rfl⟩
theorem bWriteByte {c : ByteArray} {H : AHeap} {o : Nat} {R : A → AHeap → Prop} (x : UInt8) (n : Int) (hx : n = x.toNat) (hlim : c.size + 1 ≤ 140737488355328) (ho : getL H o .dead = .bld c)
    (hR : ∀ c', c' = c ++ ⟨#[x]⟩ → R (.d .nili) (setL H o (.bld c'))) : CallW P 105 [.ptr o 0, .d (.int .u8 n)] H R :=
  CallW.of ((vc_WriteByte (P := P ()) Tryz.bld167 Tryz.bldExtra rfl rfl c x n hx hlim).bld (ds := [.int .u8 n]) (.d _) (fun _ => rfl) ho) (by rintro r H' ⟨rfl, rfl⟩; exact hR _ rfl)
/-- the rows of two parts -/
def rowsI (i j : Nat) : D := match j with
  | 0 => .int .i64 (if i = 0 then 12 else 1)
  | 1 => .int .i64 0
  | 2 => .str ByteArray.empty
  | 3 => .sl 0 2 (lsF (fun _ => 0) (fun _ => 0) (fun _ _ => 0) (fun _ _ => 0))
  | _ => .sl 0 5 (fun _ _ => .nilp)
theorem wLam (c : ByteArray) (hc : c.size ≤ 900) : VCalls (P ()) 58 [.ptr 0 0, tml 6 0 ByteArray.empty 0 (fun _ => 0) (fun _ => 0) (fun _ _ => 0) (fun _ _ => 0) 2 rowsI] [.bld c] (fun r H => r = .tup [] ∧ ∃ G, H = [.bld (c ++ ⟨⟨[40]⟩⟩ ++ ⟨⟨[108, 97, 109]⟩⟩ ++ ⟨⟨[32, 48]⟩⟩ ++ ⟨⟨[32, 117, 110, 105, 116, 32, 35, 48, 41]⟩⟩)] ++ G) := by
  refine VCalls_of_Wl (Tf := fun {_} _ => fzT [3] (T ())) (fun {_} => tabOk.frz [3]) [] 400 Tryz.func58 rfl (fun {_} => by kernel_rfl) (Nat.le_of_ble_eq_true rfl) @fun ⟨_, _, _, _, _, _, _, _, _, _, _, _, _, _, _, _, _, _, _, _, _, _, _, _, _, _, _, _, _, _, _, _, _, _, _, _, _, _, wp, wf⟩ nH R hnH hR => ?_
  subst hnH
  cbv
  try simp only [wp, (show ∀ n : Nat, _ = n from fun n => wf.2.2.2.2.2.2.2.2.2.2.2.2.2.1 (Int.ofNat n)), getL, takeL, dropL, TK.isAgg, reduceIte]
  refine of_6.call ?_
  rintro _ rfl
  (cbv; try simp only [wp, (show ∀ n : Nat, _ = n from fun n => wf.2.2.2.2.2.2.2.2.2.2.2.2.2.1 (Int.ofNat n)), (show _ = (0 : Nat) from wf.2.2.2.2.2.2.2.2.2.2.2.2.2.1 0), getL, takeL, dropL, TK.isAgg, reduceIte])
  have wb := fun y => wf.2.2.2.2.2.2.2.2.1 BinOp.and IntKind.i64 32 y
  have e2 : bitF .and .i64 32 2 = 0 := by decide
  have e1 : bitF .and .i64 32 1 = 0 := by decide
  have e112 : bitF .and .i64 32 112 = 32 := by decide
  have w2 := (wb 2).trans e2
  have w1 := (wb 1).trans e1
  have w112 := (wb 112).trans e112
  repeat' first | (with_reducible refine And.intro ?_ ?_) | intro c9 | contradiction | (exfalso; omega) | (refine Later.mk ?_; cbv; try simp only [wp, (show ∀ n : Nat, _ = n from fun n => wf.2.2.2.2.2.2.2.2.2.2.2.2.2.1 (Int.ofNat n)), (show _ = (0 : Nat) from wf.2.2.2.2.2.2.2.2.2.2.2.2.2.1 0), getL, takeL, dropL, TK.isAgg, reduceIte])
  all_goals first | (show _ ≤ _; ((try simp only [wf, nc, nc', Int.toNat_natCast, bsz, ByteArray.size_append, List.length_cons, List.length_nil] at *); (try simp (disch := omega) only [w64, w32, wu8] at *)); decide) | skip
  have hcat := wf.2.2.2.2.2.2.2.2.2.2.2.2.2.2.2.2.1 ⟨⟨[40]⟩⟩ ⟨⟨[108, 97, 109]⟩⟩
  have z4 : ((⟨⟨[40]⟩⟩ : ByteArray) ++ ⟨⟨[108, 97, 109]⟩⟩).size = 4 := rfl
  refine bWriteString (by rw [hcat]; omega) rfl ?_
  intro n1 c1 h1 h2
  rw [hcat] at h2
  clear h1
  have s1 : c1.size = c.size + 4 := by rw [h2, ByteArray.size_append]; omega
  (cbv; try simp only [wp, (show ∀ n : Nat, _ = n from fun n => wf.2.2.2.2.2.2.2.2.2.2.2.2.2.1 (Int.ofNat n)), (show _ = (0 : Nat) from wf.2.2.2.2.2.2.2.2.2.2.2.2.2.1 0), getL, takeL, dropL, TK.isAgg, reduceIte])
  repeat' first | (with_reducible refine And.intro ?_ ?_) | intro c9 | contradiction | (exfalso; omega) | (refine Later.mk ?_; cbv; try simp only [wp, (show ∀ n : Nat, _ = n from fun n => wf.2.2.2.2.2.2.2.2.2.2.2.2.2.1 (Int.ofNat n)), (show _ = (0 : Nat) from wf.2.2.2.2.2.2.2.2.2.2.2.2.2.1 0), getL, takeL, dropL, TK.isAgg, reduceIte])
  refine itoa0.call ?_
  rintro _ rfl
  (cbv; try simp only [wp, (show ∀ n : Nat, _ = n from fun n => wf.2.2.2.2.2.2.2.2.2.2.2.2.2.1 (Int.ofNat n)), (show _ = (0 : Nat) from wf.2.2.2.2.2.2.2.2.2.2.2.2.2.1 0), getL, takeL, dropL, TK.isAgg, reduceIte])
  repeat' first | (with_reducible refine And.intro ?_ ?_) | intro c9 | contradiction | (exfalso; omega) | (refine Later.mk ?_; cbv; try simp only [wp, (show ∀ n : Nat, _ = n from fun n => wf.2.2.2.2.2.2.2.2.2.2.2.2.2.1 (Int.ofNat n)), (show _ = (0 : Nat) from wf.2.2.2.2.2.2.2.2.2.2.2.2.2.1 0), getL, takeL, dropL, TK.isAgg, reduceIte])
  all_goals first | (show _ ≤ _; ((try simp only [wf, nc, nc', Int.toNat_natCast, bsz, ByteArray.size_append, List.length_cons, List.length_nil] at *); (try simp (disch := omega) only [w64, w32, wu8] at *)); decide) | skip
  have hcat2 := wf.2.2.2.2.2.2.2.2.2.2.2.2.2.2.2.2.1 ⟨⟨[32]⟩⟩ ⟨⟨[48]⟩⟩
  have z5 : ((⟨⟨[32]⟩⟩ : ByteArray) ++ ⟨⟨[48]⟩⟩).size = 2 := rfl
  refine bWriteString (by rw [hcat2]; omega) rfl ?_
  intro n1 c2 h1 h3
  rw [hcat2] at h3
  clear h1
  have s2 : c2.size = c.size + 6 := by rw [h3, ByteArray.size_append]; omega
  (cbv; try simp only [wp, (show ∀ n : Nat, _ = n from fun n => wf.2.2.2.2.2.2.2.2.2.2.2.2.2.1 (Int.ofNat n)), (show _ = (0 : Nat) from wf.2.2.2.2.2.2.2.2.2.2.2.2.2.1 0), getL, takeL, dropL, TK.isAgg, reduceIte])
  repeat' first | (with_reducible refine And.intro ?_ ?_) | intro c9 | contradiction | (exfalso; omega) | (refine Later.mk ?_; cbv; try simp only [wp, (show ∀ n : Nat, _ = n from fun n => wf.2.2.2.2.2.2.2.2.2.2.2.2.2.1 (Int.ofNat n)), (show _ = (0 : Nat) from wf.2.2.2.2.2.2.2.2.2.2.2.2.2.1 0), getL, takeL, dropL, TK.isAgg, reduceIte])
  obtain ⟨cs, k0, k1, k2⟩ : ∃ cs : Nat → ByteArray, cs 0 = c2 ∧ cs 1 = c2 ++ ⟨#[32]⟩ ++ ⟨⟨[117, 110, 105, 116]⟩⟩ ∧ cs 2 = c2 ++ ⟨#[32]⟩ ++ ⟨⟨[117, 110, 105, 116]⟩⟩ ++ ⟨#[32]⟩ ++ ⟨⟨[35]⟩⟩ ++ ⟨⟨[48]⟩⟩ :=
    ⟨fun i => match i with | 0 => c2 | 1 => c2 ++ ⟨#[32]⟩ ++ ⟨⟨[117, 110, 105, 116]⟩⟩ | _ => c2 ++ ⟨#[32]⟩ ++ ⟨⟨[117, 110, 105, 116]⟩⟩ ++ ⟨#[32]⟩ ++ ⟨⟨[35]⟩⟩ ++ ⟨⟨[48]⟩⟩, rfl, rfl, rfl⟩
  have y1 : (⟨#[32]⟩ : ByteArray).size = 1 := rfl
  have y2 : (⟨⟨[117, 110, 105, 116]⟩⟩ : ByteArray).size = 4 := rfl
  have y3 : (⟨⟨[35]⟩⟩ : ByteArray).size = 1 := rfl
  have y4 : (⟨⟨[48]⟩⟩ : ByteArray).size = 1 := rfl
  refine loopL (Tf := fun {_} _ => fzT [3] (T ())) (fun {_} => tabOk.frz [3]) [] 400 (fun y : Nat => ⟨[.ptr 0 0, .undef, .undef, .undef, .undef, .undef, .undef, .undef, .undef, .undef, .undef, .undef, .undef, .undef, .undef, .undef, .undef, .undef, .undef, .undef, .undef, .undef, .undef, .undef, .undef, .undef, .undef, .undef, .undef, .undef, .undef, .undef, .undef, .undef, .undef, .undef, .undef, .undef, .undef, .undef, .undef, .undef, .undef, .undef, .undef, .undef, .undef, .undef, .undef, .undef, .undef, .undef, .undef, .undef, .undef, .undef, .undef, .undef, .undef, .undef, .undef, .undef, .undef, .undef, .undef, .undef, .undef, .undef, .undef, .undef, .undef, .undef, .undef, .undef, .undef, .undef, .undef, .undef, .undef, .undef, .undef, .undef, .undef, .undef, .undef, .undef, .undef, .undef, .undef, .undef, .undef, .d (.sl 2 5 rowsI), .d (.int .i64 2), .d (.int .i64 y), .undef, .undef, .undef, .undef, .undef, .undef, .undef, .undef, .undef, .undef, .undef], [.bld (cs y)]⟩) (fun y => 2 - y) (fun y => y ≤ 2) 0 (by decide) (fun {_} => by kernel_rfl) ?_ (fun i => by kernel_rfl) @fun ⟨_, _, _, _, _, _, _, _, _, _, _, _, _, _, _, _, _, _, _, _, _, _, _, _, _, _, _, _, _, _, _, _, _, _, _, _, _, _, wpa, wfa⟩ y Bk hi hBk => ?_
  · (cbv; try simp only [wf, exD, exL, exT, exB, exA, leLs, leL_d, leL_undef, leL_nils, leA_nils, deq_refl, deq_int, deq_bool, deq_str, and_true, true_and, AObj.iter.injEq, nc, nc']; try simp (disch := omega) only [w64, w32, wu8])
    exact ⟨⟨rfl, rfl⟩, by rw [k0]⟩
  have hy : y = 0 ∨ y = 1 ∨ y = 2 := by omega
  clear hi
  rcases hy with rfl | rfl | rfl
  · (cbv; try simp only [wp, (show ∀ n : Nat, _ = n from fun n => wf.2.2.2.2.2.2.2.2.2.2.2.2.2.1 (Int.ofNat n)), (show _ = (0 : Nat) from wf.2.2.2.2.2.2.2.2.2.2.2.2.2.1 0), wpa, (show ∀ n : Nat, _ = n from fun n => wfa.2.2.2.2.2.2.2.2.2.2.2.2.2.1 (Int.ofNat n)), (show _ = (0 : Nat) from wfa.2.2.2.2.2.2.2.2.2.2.2.2.2.1 0), getL, takeL, dropL, TK.isAgg, reduceIte])
    refine ⟨fun _ => ?_, fun h => absurd h (by decide)⟩
    repeat' first | (with_reducible refine And.intro ?_ ?_) | intro c9 | (refine Later.mk ?_; cbv; try simp only [wp, (show ∀ n : Nat, _ = n from fun n => wf.2.2.2.2.2.2.2.2.2.2.2.2.2.1 (Int.ofNat n)), (show _ = (0 : Nat) from wf.2.2.2.2.2.2.2.2.2.2.2.2.2.1 0), wpa, (show ∀ n : Nat, _ = n from fun n => wfa.2.2.2.2.2.2.2.2.2.2.2.2.2.1 (Int.ofNat n)), (show _ = (0 : Nat) from wfa.2.2.2.2.2.2.2.2.2.2.2.2.2.1 0), getL, takeL, dropL, TK.isAgg, reduceIte])
    all_goals first | exact (by (try simp only [wf, wfa, nc, nc', Int.toNat_natCast, bsz, ByteArray.size_append, List.length_cons, List.length_nil] at *); (try simp (disch := omega) only [w64, w32, wu8] at *); first | done | omega) | skip
    rw [k0]
    refine bWriteByte 32 32 rfl (by omega) rfl ?_
    intro c3 h4
    have s3 : c3.size = c2.size + 1 := by rw [h4, ByteArray.size_append]; rfl
    (cbv; try simp only [wp, (show ∀ n : Nat, _ = n from fun n => wf.2.2.2.2.2.2.2.2.2.2.2.2.2.1 (Int.ofNat n)), (show _ = (0 : Nat) from wf.2.2.2.2.2.2.2.2.2.2.2.2.2.1 0), wpa, (show ∀ n : Nat, _ = n from fun n => wfa.2.2.2.2.2.2.2.2.2.2.2.2.2.1 (Int.ofNat n)), (show _ = (0 : Nat) from wfa.2.2.2.2.2.2.2.2.2.2.2.2.2.1 0), getL, takeL, dropL, TK.isAgg, reduceIte])
    refine CallW.within (wUnit c3 (by omega)) [0] rfl ⟨rfl, trivial⟩ rfl ?_
    rintro _ _ ⟨rfl, G, rfl⟩
    refine ⟨[.bld (c3 ++ ⟨⟨[117, 110, 105, 116]⟩⟩)], G, rfl, Nat.le_refl _, ⟨trivial, trivial⟩, rfl, ?_⟩
    obtain ⟨c4, h5⟩ : ∃ c4, c4 = c3 ++ ⟨⟨[117, 110, 105, 116]⟩⟩ := ⟨_, rfl⟩
    rw [← h5]
    (cbv; try simp only [wp, (show ∀ n : Nat, _ = n from fun n => wf.2.2.2.2.2.2.2.2.2.2.2.2.2.1 (Int.ofNat n)), (show _ = (0 : Nat) from wf.2.2.2.2.2.2.2.2.2.2.2.2.2.1 0), wpa, (show ∀ n : Nat, _ = n from fun n => wfa.2.2.2.2.2.2.2.2.2.2.2.2.2.1 (Int.ofNat n)), (show _ = (0 : Nat) from wfa.2.2.2.2.2.2.2.2.2.2.2.2.2.1 0), getL, takeL, dropL, TK.isAgg, reduceIte])
    refine hBk 1 _ (by decide) (by decide) ?_
    (cbv; try simp only [wf, wfa, exD, exL, exT, exB, exA, leLs, leL_d, leL_undef, leL_nils, leA_nils, deq_refl, deq_int, deq_bool, deq_str, and_true, true_and, AObj.iter.injEq, nc, nc']; try simp (disch := omega) only [w64, w32, wu8])
    exact ⟨rfl, by rw [k1, h5, h4]⟩
  · (cbv; try simp only [wp, (show ∀ n : Nat, _ = n from fun n => wf.2.2.2.2.2.2.2.2.2.2.2.2.2.1 (Int.ofNat n)), (show _ = (0 : Nat) from wf.2.2.2.2.2.2.2.2.2.2.2.2.2.1 0), wpa, (show ∀ n : Nat, _ = n from fun n => wfa.2.2.2.2.2.2.2.2.2.2.2.2.2.1 (Int.ofNat n)), (show _ = (0 : Nat) from wfa.2.2.2.2.2.2.2.2.2.2.2.2.2.1 0), getL, takeL, dropL, TK.isAgg, reduceIte])
    refine ⟨fun _ => ?_, fun h => absurd h (by decide)⟩
    repeat' first | (with_reducible refine And.intro ?_ ?_) | intro c9 | (refine Later.mk ?_; cbv; try simp only [wp, (show ∀ n : Nat, _ = n from fun n => wf.2.2.2.2.2.2.2.2.2.2.2.2.2.1 (Int.ofNat n)), (show _ = (0 : Nat) from wf.2.2.2.2.2.2.2.2.2.2.2.2.2.1 0), wpa, (show ∀ n : Nat, _ = n from fun n => wfa.2.2.2.2.2.2.2.2.2.2.2.2.2.1 (Int.ofNat n)), (show _ = (0 : Nat) from wfa.2.2.2.2.2.2.2.2.2.2.2.2.2.1 0), getL, takeL, dropL, TK.isAgg, reduceIte])
    all_goals first | exact (by (try simp only [wf, wfa, nc, nc', Int.toNat_natCast, bsz, ByteArray.size_append, List.length_cons, List.length_nil] at *); (try simp (disch := omega) only [w64, w32, wu8] at *); first | done | omega) | skip
    rw [k1]
    obtain ⟨c5, h6⟩ : ∃ c5, c5 = c2 ++ ⟨#[32]⟩ ++ ⟨⟨[117, 110, 105, 116]⟩⟩ := ⟨_, rfl⟩
    have s5 : c5.size = c2.size + 5 := by rw [h6, ByteArray.size_append, ByteArray.size_append]; rfl
    rw [← h6]
    refine bWriteByte 32 32 rfl (by omega) rfl ?_
    intro c3 h4
    have s3 : c3.size = c5.size + 1 := by rw [h4, ByteArray.size_append]; rfl
    (cbv; try simp only [wp, (show ∀ n : Nat, _ = n from fun n => wf.2.2.2.2.2.2.2.2.2.2.2.2.2.1 (Int.ofNat n)), (show _ = (0 : Nat) from wf.2.2.2.2.2.2.2.2.2.2.2.2.2.1 0), wpa, (show ∀ n : Nat, _ = n from fun n => wfa.2.2.2.2.2.2.2.2.2.2.2.2.2.1 (Int.ofNat n)), (show _ = (0 : Nat) from wfa.2.2.2.2.2.2.2.2.2.2.2.2.2.1 0), getL, takeL, dropL, TK.isAgg, reduceIte])
    refine CallW.within (wVar c3 (by omega)) [0] rfl ⟨rfl, trivial⟩ rfl ?_
    rintro _ _ ⟨rfl, G, rfl⟩
    refine ⟨[.bld (c3 ++ ⟨⟨[35]⟩⟩ ++ ⟨⟨[48]⟩⟩)], G, rfl, Nat.le_refl _, ⟨trivial, trivial⟩, rfl, ?_⟩
    obtain ⟨c4, h5⟩ : ∃ c4, c4 = c3 ++ ⟨⟨[35]⟩⟩ ++ ⟨⟨[48]⟩⟩ := ⟨_, rfl⟩
    rw [← h5]
    (cbv; try simp only [wp, (show ∀ n : Nat, _ = n from fun n => wf.2.2.2.2.2.2.2.2.2.2.2.2.2.1 (Int.ofNat n)), (show _ = (0 : Nat) from wf.2.2.2.2.2.2.2.2.2.2.2.2.2.1 0), wpa, (show ∀ n : Nat, _ = n from fun n => wfa.2.2.2.2.2.2.2.2.2.2.2.2.2.1 (Int.ofNat n)), (show _ = (0 : Nat) from wfa.2.2.2.2.2.2.2.2.2.2.2.2.2.1 0), getL, takeL, dropL, TK.isAgg, reduceIte])
    refine hBk 2 _ (by decide) (by decide) ?_
    (cbv; try simp only [wf, wfa, exD, exL, exT, exB, exA, leLs, leL_d, leL_undef, leL_nils, leA_nils, deq_refl, deq_int, deq_bool, deq_str, and_true, true_and, AObj.iter.injEq, nc, nc']; try simp (disch := omega) only [w64, w32, wu8])
    exact ⟨rfl, by rw [k2, h5, h4, h6]⟩
  · (cbv; try simp only [wp, (show ∀ n : Nat, _ = n from fun n => wf.2.2.2.2.2.2.2.2.2.2.2.2.2.1 (Int.ofNat n)), (show _ = (0 : Nat) from wf.2.2.2.2.2.2.2.2.2.2.2.2.2.1 0), wpa, (show ∀ n : Nat, _ = n from fun n => wfa.2.2.2.2.2.2.2.2.2.2.2.2.2.1 (Int.ofNat n)), (show _ = (0 : Nat) from wfa.2.2.2.2.2.2.2.2.2.2.2.2.2.1 0), getL, takeL, dropL, TK.isAgg, reduceIte])
    refine ⟨fun h => absurd h (by decide), fun _ => ?_⟩
    have s5 : (cs 2).size ≤ 1000 := by rw [k2]; simp only [ByteArray.size_append]; omega
    obtain ⟨c5, h6⟩ : ∃ c5, c5 = cs 2 := ⟨_, rfl⟩
    rw [← h6] at s5 ⊢
    (refine Later.mk ?_; cbv; try simp only [wp, (show ∀ n : Nat, _ = n from fun n => wf.2.2.2.2.2.2.2.2.2.2.2.2.2.1 (Int.ofNat n)), (show _ = (0 : Nat) from wf.2.2.2.2.2.2.2.2.2.2.2.2.2.1 0), wpa, (show ∀ n : Nat, _ = n from fun n => wfa.2.2.2.2.2.2.2.2.2.2.2.2.2.1 (Int.ofNat n)), (show _ = (0 : Nat) from wfa.2.2.2.2.2.2.2.2.2.2.2.2.2.1 0), getL, takeL, dropL, TK.isAgg, reduceIte])
    refine bWriteByte 41 41 rfl (by omega) rfl ?_
    intro c6 h7
    (cbv; try simp only [wp, (show ∀ n : Nat, _ = n from fun n => wf.2.2.2.2.2.2.2.2.2.2.2.2.2.1 (Int.ofNat n)), (show _ = (0 : Nat) from wf.2.2.2.2.2.2.2.2.2.2.2.2.2.1 0), wpa, (show ∀ n : Nat, _ = n from fun n => wfa.2.2.2.2.2.2.2.2.2.2.2.2.2.1 (Int.ofNat n)), (show _ = (0 : Nat) from wfa.2.2.2.2.2.2.2.2.2.2.2.2.2.1 0), getL, takeL, dropL, TK.isAgg, reduceIte])
    have hfin : c6 = c ++ ⟨⟨[40]⟩⟩ ++ ⟨⟨[108, 97, 109]⟩⟩ ++ ⟨⟨[32, 48]⟩⟩ ++ ⟨⟨[32, 117, 110, 105, 116, 32, 35, 48, 41]⟩⟩ := by
      rw [h7, h6, k2, h3, h2]
      refine ByteArray.ext ?_
      simp [ByteArray.data_append]
    exact hR _ _ ⟨rfl, [], by rw [hfin]; rfl⟩
end Go.VM

namespace Go.VM
open Go.Proofs Go
set_option maxRecDepth 100000
set_option linter.unusedVariables false
set_option linter.unusedSimpArgs false
/-- the identity on the unit -/
theorem okN (op : Int) (m : Nat) (h : -9223372036854775808 ≤ op ∧ op ≤ 9223372036854775807) (hm : m < 2 ^ 63) : TmOk op 0 ByteArray.empty 0 (fun _ => 0) m := ⟨h, by decide, by decide, by decide, fun _ => by decide, hm⟩
def leafT (op : Int) (h : -9223372036854775808 ≤ op ∧ op ≤ 9223372036854775807) : Tm := .nd op 0 ByteArray.empty 0 (fun _ => 0) (fun _ => 0) (fun _ _ => 0) (fun _ _ => 0) 0 (okN op 0 h (by decide)) fun _ => .leaf
def kidsI (i : Nat) : Tm := if i = 0 then leafT 12 (by decide) else leafT 1 (by decide)
def idT : Tm := .nd 6 0 ByteArray.empty 0 (fun _ => 0) (fun _ => 0) (fun _ _ => 0) (fun _ _ => 0) 2 (okN 6 2 (by decide) (by decide)) kidsI
theorem leaf_col (op : Int) (h : -9223372036854775808 ≤ op ∧ op ≤ 9223372036854775807) : tmD (leafT op h) 0 = .int .i64 op ∧ tmD (leafT op h) 1 = .int .i64 0 ∧ tmD (leafT op h) 2 = .str ByteArray.empty ∧
    tmD (leafT op h) 3 = .sl 0 2 (lsF (fun _ => 0) (fun _ => 0) (fun _ _ => 0) (fun _ _ => 0)) ∧ ∃ g, tmD (leafT op h) 4 = .sl 0 5 g := by
  obtain ⟨t0, t1, t2, t3, t4⟩ := tmD_nd op 0 ByteArray.empty 0 (fun _ => 0) (fun _ => 0) (fun _ _ => 0) (fun _ _ => 0) 0 (okN op 0 h (by decide)) fun _ => .leaf
  exact ⟨t0, t1, t2, t3, _, t4⟩
theorem idT_eq : ∃ G : Nat → Nat → D, tm idT = tml 6 0 ByteArray.empty 0 (fun _ => 0) (fun _ => 0) (fun _ _ => 0) (fun _ _ => 0) 2 G ∧ ∀ i j, i < 2 → j < 5 → Deq (rowsI i j) (G i j) := by
  obtain ⟨t0, t1, t2, t3, t4⟩ := tmD_nd 6 0 ByteArray.empty 0 (fun _ => 0) (fun _ => 0) (fun _ _ => 0) (fun _ _ => 0) 2 (okN 6 2 (by decide) (by decide)) kidsI
  refine ⟨fun i j => if h : i < 2 then tmD (kidsI i) j else .nilp, ?_, fun i j hi hj => ?_⟩
  · unfold tm idT tml
    rw [t0, t1, t2, t3, t4]
  · show Deq _ (if h : i < 2 then tmD (kidsI i) j else .nilp)
    rw [dif_pos hi]
    have key : ∀ op h, (∀ j, j < 5 → Deq (match j with | 0 => D.int .i64 op | 1 => .int .i64 0 | 2 => .str ByteArray.empty | 3 => .sl 0 2 (lsF (fun _ => 0) (fun _ => 0) (fun _ _ => 0) (fun _ _ => 0)) | _ => .sl 0 5 (fun _ _ => .nilp)) (tmD (leafT op h) j)) := fun op h j hj => by
      obtain ⟨a0, a1, a2, a3, g, a4⟩ := leaf_col op h
      match j, hj with
      | 0, _ => rw [a0]; exact .refl _
      | 1, _ => rw [a1]; exact .refl _
      | 2, _ => rw [a2]; exact .refl _
      | 3, _ => rw [a3]; exact .refl _
      | 4, _ => rw [a4]; exact .nil _ _ _ _
    match i, hi with
    | 0, _ =>
      have := key 12 (by decide) j hj
      match j, hj with
      | 0, _ | 1, _ | 2, _ | 3, _ | 4, _ => exact this
    | 1, _ =>
      have := key 1 (by decide) j hj
      match j, hj with
      | 0, _ | 1, _ | 2, _ | 3, _ | 4, _ => exact this
theorem idT_light : Light idT 400 := by
  have hl : ∀ op h, nodesT (leafT op h) = 1 ∧ ¬ longT (leafT op h) := fun op h => by
    unfold leafT
    rw [nodesT_nd, longT_nd]
    refine ⟨rfl, ?_⟩
    rintro (h | ⟨i, hi, _⟩)
    · exact absurd h (by decide)
    · omega
  unfold Light idT
  rw [nodesT_nd, longT_nd]
  have k0 := hl 12 (by decide)
  have k1 := hl 1 (by decide)
  refine ⟨?_, ?_⟩
  · simp only [sumF, kidsI]
    simp [k0.1, k1.1]
  · rintro (h | ⟨i, hi, h⟩)
    · exact absurd h (by decide)
    · unfold kidsI at h
      split at h
      · exact k0.2 h
      · exact k1.2 h
theorem idT_valid : ValidT idT := by
  have hl : ∀ op h, depT (leafT op h) = 1 := fun op h => by unfold leafT; rw [depT_nd]; rfl
  have ht : ∀ op h, (op = 12 ∨ op = 1) → FormT (leafT op h) := fun op h ho => by
    unfold leafT
    rw [FormT_nd]
    refine ⟨⟨?_, fun i hi => by omega⟩, fun i hi => by omega⟩
    rcases ho with rfl | rfl
    · exact ⟨by decide, by decide, by decide, by decide, fun h => by omega, fun h => by omega, fun _ => by decide, fun _ => rfl, fun h => by omega, fun _ => by decide⟩
    · exact ⟨by decide, by decide, by decide, by decide, fun h => by omega, fun h => by omega, fun _ => by decide, fun _ => rfl, fun h => by omega, fun _ => by decide⟩
  refine ⟨?_, ?_⟩
  · unfold idT
    rw [depT_nd]
    simp only [maxF, kidsI]
    simp [hl]
  · unfold idT
    rw [FormT_nd]
    refine ⟨⟨⟨by decide, by decide, by decide, by decide, fun h => by omega, fun h => by omega, fun _ => by decide, fun _ => rfl, fun h => by omega, fun _ => by decide⟩, fun i hi => by omega⟩, fun i hi => ?_⟩
    unfold kidsI
    split
    · exact ht 12 _ (.inl rfl)
    · exact ht 1 _ (.inr rfl)
theorem validI {H : AHeap} {R : A → AHeap → Prop} (hR : R (.d (.bool true)) H) : CallW P 38 [tml 6 0 ByteArray.empty 0 (fun _ => 0) (fun _ => 0) (fun _ _ => 0) (fun _ _ => 0) 2 rowsI] H R := by
  obtain ⟨G, e, hg⟩ := idT_eq
  have h := Valid03 idT idT_light
  rw [e] at h
  refine CallW.args (args' := [tml 6 0 ByteArray.empty 0 (fun _ => 0) (fun _ => 0) (fun _ _ => 0) (fun _ _ => 0) 2 G]) (fun {_ _} => ⟨⟨_, rfl, .refl _, .refl _, .refl _, .refl _, .sl _ _ _ _ fun i j hi hj => hg i j hi hj, trivial⟩, trivial⟩) ?_
  refine h.call ?_
  rintro _ ⟨b, hb, rfl⟩
  obtain rfl := hb.2 idT_valid
  exact hR
theorem formatT : VFun (P ()) 32 [tml 6 0 ByteArray.empty 0 (fun _ => 0) (fun _ => 0) (fun _ _ => 0) (fun _ _ => 0) 2 rowsI] (fun r => r = .tup [.d (.str ⟨⟨[40, 108, 97, 109, 32, 48, 32, 117, 110, 105, 116, 32, 35, 48, 41]⟩⟩), .d (.int .i64 0)]) := by
  refine vfunO (Tf := fun {_} _ => fzT [1] (T ())) (fun {_} => tabOk.frz [1]) [] 400 Tryz.func32 rfl (fun {_} => by kernel_rfl) rfl (Nat.le_of_ble_eq_true rfl) @fun ⟨_, _, _, _, _, _, _, _, _, _, _, _, _, _, _, _, _, _, _, _, _, _, _, _, _, _, _, _, _, _, _, _, _, _, _, _, _, _, wp, wf⟩ R hR => ?_
  cbv
  try simp only [wp, (show ∀ n : Nat, _ = n from fun n => wf.2.2.2.2.2.2.2.2.2.2.2.2.2.1 (Int.ofNat n)), getL, takeL, dropL, TK.isAgg, reduceIte]
  refine validI ?_
  (cbv; try simp only [wp, (show ∀ n : Nat, _ = n from fun n => wf.2.2.2.2.2.2.2.2.2.2.2.2.2.1 (Int.ofNat n)), (show _ = (0 : Nat) from wf.2.2.2.2.2.2.2.2.2.2.2.2.2.1 0), getL, takeL, dropL, TK.isAgg, reduceIte])
  repeat' first | trivial | with_reducible refine And.intro ?_ ?_ | intro c9
  all_goals (refine Later.mk ?_; cbv; try simp only [wp, (show ∀ n : Nat, _ = n from fun n => wf.2.2.2.2.2.2.2.2.2.2.2.2.2.1 (Int.ofNat n)), (show _ = (0 : Nat) from wf.2.2.2.2.2.2.2.2.2.2.2.2.2.1 0), getL, takeL, dropL, TK.isAgg, reduceIte])
  all_goals
    refine CallW.within (wLam ⟨⟨[]⟩⟩ (by decide)) [0] rfl ⟨rfl, trivial⟩ rfl ?_
    rintro _ _ ⟨rfl, G, rfl⟩
    refine ⟨[_], G, rfl, Nat.le_refl _, ⟨trivial, trivial⟩, rfl, ?_⟩
    (cbv; try simp only [wp, (show ∀ n : Nat, _ = n from fun n => wf.2.2.2.2.2.2.2.2.2.2.2.2.2.1 (Int.ofNat n)), (show _ = (0 : Nat) from wf.2.2.2.2.2.2.2.2.2.2.2.2.2.1 0), getL, takeL, dropL, TK.isAgg, reduceIte])
    refine bString rfl ?_
    (cbv; try simp only [wp, (show ∀ n : Nat, _ = n from fun n => wf.2.2.2.2.2.2.2.2.2.2.2.2.2.1 (Int.ofNat n)), (show _ = (0 : Nat) from wf.2.2.2.2.2.2.2.2.2.2.2.2.2.1 0), getL, takeL, dropL, TK.isAgg, reduceIte])
    exact hR _ _ _ (.tup2 (.d _) (.d _)) rfl
theorem awakeT : VFun (P ()) 12 [] (fun r => r = .d (.bool true)) := by
  refine vfunO (Tf := fun {_} _ => fzT [] (T ())) (fun {_} => tabOk.frz []) [] 400 Tryz.func12 rfl (fun {_} => by kernel_rfl) rfl (Nat.le_of_ble_eq_true rfl) @fun ⟨_, _, _, _, _, _, _, _, _, _, _, _, _, _, _, _, _, _, _, _, _, _, _, _, _, _, _, _, _, _, _, _, _, _, _, _, _, _, wp, wf⟩ R hR => ?_
  cbv
  try simp only [wp, (show ∀ n : Nat, _ = n from fun n => wf.2.2.2.2.2.2.2.2.2.2.2.2.2.1 (Int.ofNat n)), getL, takeL, dropL, TK.isAgg, reduceIte]
  (refine CallW.frz @fun ⟨_, _, _, _, _, _, _, _, _, _, _, _, _, _, _, _, _, _, _, _, _, _, _, _, _, _, _, _, _, _, _, _, _, _, _, _, _, _, wpz, wfz⟩ => ?_; cbv; try simp only [wpz, wp, (show ∀ n : Nat, _ = n from fun n => wfz.2.2.2.2.2.2.2.2.2.2.2.2.2.1 (Int.ofNat n)), getL, takeL, dropL, TK.isAgg, reduceIte])
  repeat' first | trivial | with_reducible refine And.intro ?_ ?_ | intro c9
  refine CallW.args (args' := [tml 6 0 ByteArray.empty 0 (fun _ => 0) (fun _ => 0) (fun _ _ => 0) (fun _ _ => 0) 2 rowsI]) (fun {_ _} => ⟨⟨_, rfl, .refl _, .refl _, .refl _, .nil _ _ _ _, ?_, trivial⟩, trivial⟩) ?_
  · ((try simp only [wf, nc, nc', Int.toNat_natCast, bsz, ByteArray.size_append, List.length_cons, List.length_nil] at *); (try simp (disch := omega) only [w64, w32, wu8] at *))
    refine .sl _ _ _ _ fun i j hi hj => ?_
    match i, hi with
    | 0, _ =>
      match j, hj with
      | 0, _ | 1, _ | 2, _ => exact .refl _
      | 3, _ | 4, _ => exact .nil _ _ _ _
    | 1, _ =>
      match j, hj with
      | 0, _ | 1, _ | 2, _ => exact .refl _
      | 3, _ | 4, _ => exact .nil _ _ _ _
  refine formatT.call ?_
  rintro _ rfl
  (cbv; try simp only [wp, (show ∀ n : Nat, _ = n from fun n => wf.2.2.2.2.2.2.2.2.2.2.2.2.2.1 (Int.ofNat n)), (show _ = (0 : Nat) from wf.2.2.2.2.2.2.2.2.2.2.2.2.2.1 0), getL, takeL, dropL, TK.isAgg, reduceIte])
  repeat' first | trivial | with_reducible refine And.intro ?_ ?_ | intro c9
  (refine CallW.frz @fun ⟨_, _, _, _, _, _, _, _, _, _, _, _, _, _, _, _, _, _, _, _, _, _, _, _, _, _, _, _, _, _, _, _, _, _, _, _, _, _, wpz, wfz⟩ => ?_; cbv; try simp only [wpz, wp, (show ∀ n : Nat, _ = n from fun n => wfz.2.2.2.2.2.2.2.2.2.2.2.2.2.1 (Int.ofNat n)), getL, takeL, dropL, TK.isAgg, reduceIte])
  repeat' first | trivial | with_reducible refine And.intro ?_ ?_ | intro c9
  refine CallW.args (args' := [tml 6 0 ByteArray.empty 0 (fun _ => 0) (fun _ => 0) (fun _ _ => 0) (fun _ _ => 0) 2 rowsI]) (fun {_ _} => ⟨⟨_, rfl, .refl _, .refl _, .refl _, .nil _ _ _ _, ?_, trivial⟩, trivial⟩) ?_
  · ((try simp only [wf, nc, nc', Int.toNat_natCast, bsz, ByteArray.size_append, List.length_cons, List.length_nil] at *); (try simp (disch := omega) only [w64, w32, wu8] at *))
    refine .sl _ _ _ _ fun i j hi hj => ?_
    match i, hi with
    | 0, _ =>
      match j, hj with
      | 0, _ | 1, _ | 2, _ => exact .refl _
      | 3, _ | 4, _ => exact .nil _ _ _ _
    | 1, _ =>
      match j, hj with
      | 0, _ | 1, _ | 2, _ => exact .refl _
      | 3, _ | 4, _ => exact .nil _ _ _ _
  refine validI ?_
  (cbv; try simp only [wp, (show ∀ n : Nat, _ = n from fun n => wf.2.2.2.2.2.2.2.2.2.2.2.2.2.1 (Int.ofNat n)), (show _ = (0 : Nat) from wf.2.2.2.2.2.2.2.2.2.2.2.2.2.1 0), getL, takeL, dropL, TK.isAgg, reduceIte])
  exact hR _ _ _ (.d _) rfl
/-- a list of terms, each of at most 400 nodes -/
theorem heavyV (m : Nat) (G : Nat → Nat → D) (K : Nat → Tm) (hm : m < 2 ^ 62) (hG : ∀ i, i < m → tm (K i) = kid G i) : VFun (P ()) 9 [.d (.sl m 5 G)] (fun r => ∃ b : Bool, (b = false → ∀ i, i < m → Light (K i) 400) ∧ r = .d (.bool b)) := by
  refine vfunO (Tf := fun {_} _ => fzT [] (T ())) (fun {_} => tabOk.frz []) [] 400 Tryz.func9 rfl (fun {_} => by kernel_rfl) rfl (Nat.le_of_ble_eq_true rfl) @fun ⟨_, _, _, _, _, _, _, _, _, _, _, _, _, _, _, _, _, _, _, _, _, _, _, _, _, _, _, _, _, _, _, _, _, _, _, _, _, _, wp, wf⟩ R hR => ?_
  cbv
  try simp only [wp, (show ∀ n : Nat, _ = n from fun n => wf.2.2.2.2.2.2.2.2.2.2.2.2.2.1 (Int.ofNat n)), getL, takeL, dropL, TK.isAgg, reduceIte]
  replace hR := fun b H h => hR _ H (.d (.bool b)) (.d _) ⟨b, h, rfl⟩
  refine loopO (Tf := fun {_} _ => fzT [] (T ())) (fun {_} => tabOk.frz []) [] 400 (fun i : Nat => ⟨[.d (.sl m 5 G), .undef, .d (.bool false), .d (.int .i64 i), .undef, .undef, .undef, .undef, .undef, .undef, .undef, .undef, .undef, .undef, .undef, .undef, .undef, .undef, .undef], []⟩) (fun i => m - i) (fun i => i ≤ m ∧ ∀ j, j < i → Light (K j) 400) 0 ⟨Nat.zero_le _, fun j hj => absurd hj (Nat.not_lt_zero _)⟩ (fun {_} => by kernel_rfl) ?_ (fun i => by kernel_rfl) @fun ⟨_, _, _, _, _, _, _, _, _, _, _, _, _, _, _, _, _, _, _, _, _, _, _, _, _, _, _, _, _, _, _, _, _, _, _, _, _, _, wpa, wfa⟩ i Bk hi hBk => ?_
  · ((cbv; try simp only [wf, exD, exL, exT, exB, exA, leLs, leL_d, leL_undef, leL_nils, leA_nils, deq_refl, deq_int, deq_bool, deq_str, and_true, true_and, AObj.iter.injEq, nc, nc']; try simp (disch := omega) only [w64, w32, wu8]); first | done | rfl | omega | (simp; done) | (simp; omega) | skip)
  obtain ⟨i1, i2⟩ := hi
  (cbv; try simp only [wp, (show ∀ n : Nat, _ = n from fun n => wf.2.2.2.2.2.2.2.2.2.2.2.2.2.1 (Int.ofNat n)), (show _ = (0 : Nat) from wf.2.2.2.2.2.2.2.2.2.2.2.2.2.1 0), wpa, (show ∀ n : Nat, _ = n from fun n => wfa.2.2.2.2.2.2.2.2.2.2.2.2.2.1 (Int.ofNat n)), (show _ = (0 : Nat) from wfa.2.2.2.2.2.2.2.2.2.2.2.2.2.1 0), getL, takeL, dropL, TK.isAgg, reduceIte])
  refine ⟨fun e1 => ?_, fun e1 => ?_⟩
  · have e1 : i < m := (by (try simp only [wf, wfa, nc, nc', Int.toNat_natCast, bsz, ByteArray.size_append, List.length_cons, List.length_nil] at *); (try simp (disch := omega) only [w64, w32, wu8] at *); first | done | omega)
    have hi := Heavy (K i) 400 (by decide)
    rw [hG i e1] at hi
    (refine Later.mk ?_; cbv; try simp only [wp, (show ∀ n : Nat, _ = n from fun n => wf.2.2.2.2.2.2.2.2.2.2.2.2.2.1 (Int.ofNat n)), (show _ = (0 : Nat) from wf.2.2.2.2.2.2.2.2.2.2.2.2.2.1 0), wpa, (show ∀ n : Nat, _ = n from fun n => wfa.2.2.2.2.2.2.2.2.2.2.2.2.2.1 (Int.ofNat n)), (show _ = (0 : Nat) from wfa.2.2.2.2.2.2.2.2.2.2.2.2.2.1 0), getL, takeL, dropL, TK.isAgg, reduceIte])
    repeat' first | (with_reducible refine And.intro ?_ ?_) | intro c9 | (refine Later.mk ?_; cbv; try simp only [wp, (show ∀ n : Nat, _ = n from fun n => wf.2.2.2.2.2.2.2.2.2.2.2.2.2.1 (Int.ofNat n)), (show _ = (0 : Nat) from wf.2.2.2.2.2.2.2.2.2.2.2.2.2.1 0), wpa, (show ∀ n : Nat, _ = n from fun n => wfa.2.2.2.2.2.2.2.2.2.2.2.2.2.1 (Int.ofNat n)), (show _ = (0 : Nat) from wfa.2.2.2.2.2.2.2.2.2.2.2.2.2.1 0), getL, takeL, dropL, TK.isAgg, reduceIte])
    all_goals first
      | exact (by (try simp only [wf, wfa, nc, nc', Int.toNat_natCast, bsz, ByteArray.size_append, List.length_cons, List.length_nil] at *); (try simp (disch := omega) only [w64, w32, wu8] at *); first | done | omega)
      | exact hR true _ (fun h => by cases h)
      | (refine hi.call ?_
         rintro _ ⟨b, hb, rfl⟩
         cases b <;> (cbv; try simp only [wp, (show ∀ n : Nat, _ = n from fun n => wf.2.2.2.2.2.2.2.2.2.2.2.2.2.1 (Int.ofNat n)), (show _ = (0 : Nat) from wf.2.2.2.2.2.2.2.2.2.2.2.2.2.1 0), wpa, (show ∀ n : Nat, _ = n from fun n => wfa.2.2.2.2.2.2.2.2.2.2.2.2.2.1 (Int.ofNat n)), (show _ = (0 : Nat) from wfa.2.2.2.2.2.2.2.2.2.2.2.2.2.1 0), getL, takeL, dropL, TK.isAgg, reduceIte]) <;> (refine Later.mk ?_; cbv; try simp only [wp, (show ∀ n : Nat, _ = n from fun n => wf.2.2.2.2.2.2.2.2.2.2.2.2.2.1 (Int.ofNat n)), (show _ = (0 : Nat) from wf.2.2.2.2.2.2.2.2.2.2.2.2.2.1 0), wpa, (show ∀ n : Nat, _ = n from fun n => wfa.2.2.2.2.2.2.2.2.2.2.2.2.2.1 (Int.ofNat n)), (show _ = (0 : Nat) from wfa.2.2.2.2.2.2.2.2.2.2.2.2.2.1 0), getL, takeL, dropL, TK.isAgg, reduceIte])
         · refine hBk (i + 1) _ (by omega) ⟨by omega, fun j hj => ?_⟩ ?_
           · by_cases ej : j = i
             · subst ej; exact hb.1 rfl
             · exact i2 j (by omega)
           · ((cbv; try simp only [wf, wfa, exD, exL, exT, exB, exA, leLs, leL_d, leL_undef, leL_nils, leA_nils, deq_refl, deq_int, deq_bool, deq_str, and_true, true_and, AObj.iter.injEq, nc, nc']; try simp (disch := omega) only [w64, w32, wu8]); first | done | rfl | omega | (simp; done) | (simp; omega) | skip)
         · exact hR true _ (fun h => by cases h))
  · obtain rfl : i = m := (by (try simp only [wf, wfa, nc, nc', Int.toNat_natCast, bsz, ByteArray.size_append, List.length_cons, List.length_nil] at *); (try simp (disch := omega) only [w64, w32, wu8] at *); first | done | omega)
    (refine Later.mk ?_; cbv; try simp only [wp, (show ∀ n : Nat, _ = n from fun n => wf.2.2.2.2.2.2.2.2.2.2.2.2.2.1 (Int.ofNat n)), (show _ = (0 : Nat) from wf.2.2.2.2.2.2.2.2.2.2.2.2.2.1 0), wpa, (show ∀ n : Nat, _ = n from fun n => wfa.2.2.2.2.2.2.2.2.2.2.2.2.2.1 (Int.ofNat n)), (show _ = (0 : Nat) from wfa.2.2.2.2.2.2.2.2.2.2.2.2.2.1 0), getL, takeL, dropL, TK.isAgg, reduceIte])
    exact hR false _ (fun _ => i2)
end Go.VM

/- Laws of shifting and filling. -/
namespace Go.VM
open Go
set_option linter.unusedVariables false
set_option linter.unusedSimpArgs false
section
variable {op n n1 n2 : Int} {s : ByteArray} {k : Nat} {C : Nat → Int} {N : Nat → Nat} {W Q : Nat → Nat → Int} {m : Nat} {ok : TmOk op n s k N m} {K : Nat → Tm}
theorem nd_num (h : n1 = n2) {ok1 : TmOk op n1 s k N m} {ok2 : TmOk op n2 s k N m} {K' : Nat → Tm} (hK : ∀ i, i < m → K i = K' i) : Tm.nd op n1 s k C N W Q m ok1 K = .nd op n2 s k C N W Q m ok2 K' := by
  subst h
  exact nd_congr hK
/-- the number of a node, shifted -/
def shN (a frm op n d : Int) : Int := if IsV op n ∧ frm ≤ n - d then clampI (n + a) else n
theorem shN_ok (a frm d : Int) (ok : TmOk op n s k N m) : TmOk op (shN a frm op n d) s k N m := ⟨ok.op, by unfold shN; split; exact clampI_ok _; exact ok.n, ok.s, ok.k, ok.N, ok.m⟩
theorem setN_nd (x : Int) : setN x (.nd op n s k C N W Q m ok K) = .nd op (clampI x) s k C N W Q m ⟨ok.op, clampI_ok x, ok.s, ok.k, ok.N, ok.m⟩ K := rfl
theorem numT_nd : numT (.nd op n s k C N W Q m ok K) = n := rfl
theorem sh_nd (a frm d : Int) : mapT (fSh a frm) (.nd op n s k C N W Q m ok K) d = .nd op (shN a frm op n d) s k C N W Q m (shN_ok a frm d ok) fun i => mapT (fSh a frm) (K i) (d + bindI op m i) := by
  rw [mapT_nd]
  unfold fSh
  rw [numT_nd]
  split
  · rename_i hv
    split
    · rename_i h
      rw [setN_nd]
      exact nd_num (by unfold shN; rw [if_pos ⟨hv, h⟩]) fun i hi => rfl
    · rename_i h
      exact nd_num (by unfold shN; rw [if_neg fun x => h x.2]) fun i hi => rfl
  · rename_i hv
    exact nd_num (by unfold shN; rw [if_neg fun x => hv x.1]) fun i hi => rfl
end
theorem nodesT_sh (a frm : Int) (t : Tm) : ∀ d, nodesT (mapT (fSh a frm) t d) = nodesT t := by
  refine Tm.walk (P := fun t => ∀ d, nodesT (mapT (fSh a frm) t d) = nodesT t) ?_ t
  intro op n s k C N W Q m ok K G _ _ ih d
  rw [sh_nd, nodesT_nd, nodesT_nd, sumF_congr (f := fun i => nodesT (mapT (fSh a frm) (K i) (d + bindI op m i))) (g := fun i => nodesT (K i)) fun i hi => ih i hi _]
/-- all variables are at most that number -/
def NearT (b : Int) : Tm → Prop
  | .mk op n s k C N W Q m ok L => (op = 1 → n ≤ b) ∧ ∀ i : Fin m, NearT b (L i)
section
variable {op n n1 n2 : Int} {s : ByteArray} {k : Nat} {C : Nat → Int} {N : Nat → Nat} {W Q : Nat → Nat → Int} {m : Nat} {ok : TmOk op n s k N m} {K : Nat → Tm}
theorem NearT_nd (b : Int) : NearT b (.nd op n s k C N W Q m ok K) ↔ (op = 1 → n ≤ b) ∧ ∀ i : Nat, i < m → NearT b (K i) := by
  have e : NearT b (.nd op n s k C N W Q m ok K) ↔ (op = 1 → n ≤ b) ∧ ∀ i : Fin m, NearT b (K i) := by simp only [Tm.nd, NearT]
  rw [e]
  exact and_congr Iff.rfl ⟨fun h i hi => h ⟨i, hi⟩, fun h i => h i i.2⟩
end
theorem sh_zero (frm : Int) (t : Tm) : ∀ d, mapT (fSh 0 frm) t d = t := by
  refine Tm.walk (P := fun t => ∀ d, mapT (fSh 0 frm) t d = t) ?_ t
  intro op n s k C N W Q m ok K G _ _ ih d
  rw [sh_nd]
  refine nd_num ?_ fun i hi => ih i hi _
  unfold shN
  split
  · rw [Int.add_zero, clampI_eq ok.n]
  · rfl
theorem OkT_up {a : Int} (ha : 0 ≤ a) (frm : Int) (t : Tm) : ∀ d, OkT a frm t d := by
  refine Tm.walk (P := fun t => ∀ d, OkT a frm t d) ?_ t
  intro op n s k C N W Q m ok K G _ _ ih d
  rw [OkT_nd]
  exact ⟨fun _ _ => by omega, fun i hi => ih i hi _⟩
/-- shifted, and shifted once more, from where the first ones came to stand -/
theorem sh_sh {a b c e : Int} (ha : 0 ≤ a ∧ a ≤ 2000000) (hb : -a ≤ b ∧ b ≤ 2000000) (hc : 0 ≤ c) (he : 0 ≤ e ∧ e ≤ a) {f : Int} (hf : 0 ≤ f) (t : Tm) : NearT 2000000 t → ∀ d, 0 ≤ d → mapT (fSh b f) (mapT (fSh a f) t d) (d + e) = mapT (fSh (a + b) f) t d := by
  refine Tm.walk (P := fun t => NearT 2000000 t → ∀ d, 0 ≤ d → mapT (fSh b f) (mapT (fSh a f) t d) (d + e) = mapT (fSh (a + b) f) t d) ?_ t
  intro op n s k C N W Q m ok K G _ _ ih hn d hd
  rw [NearT_nd] at hn
  rw [sh_nd, sh_nd, sh_nd]
  refine nd_num ?_ fun i hi => ?_
  · have hok := ok.n
    have h1 := hn.1
    by_cases hv : IsV op n ∧ f ≤ n - d
    · have hv2 := hv
      obtain ⟨⟨v1, v2, v3⟩, v4⟩ := hv
      have h1 := h1 v1
      have e1 : shN a f op n d = n + a := by unfold shN; rw [if_pos hv2, clampI_eq (by omega)]
      have e2 : shN (a + b) f op n d = n + (a + b) := by unfold shN; rw [if_pos hv2, clampI_eq (by omega)]
      rw [e1, e2]
      unfold shN
      rw [if_pos ⟨⟨v1, by omega, by omega⟩, by omega⟩, clampI_eq (by omega)]
      omega
    · have e1 : shN a f op n d = n := by unfold shN; rw [if_neg hv]
      have e2 : shN (a + b) f op n d = n := by unfold shN; rw [if_neg hv]
      rw [e1, e2]
      unfold shN
      rw [if_neg fun x => hv ⟨x.1, by have := x.2; omega⟩]
  · have := bindI_le op m i
    have h := ih i hi (hn.2 i hi) (d + bindI op m i) (by omega)
    rw [show d + e + bindI op m i = d + bindI op m i + e by omega]
    exact h
theorem OkT_back {a b : Int} (ha : 0 ≤ a ∧ a ≤ 2000000) (hb : -a ≤ b) {f : Int} (hf : 0 ≤ f) (t : Tm) : NearT 2000000 t → ∀ d, 0 ≤ d → OkT b f (mapT (fSh a f) t d) d := by
  refine Tm.walk (P := fun t => NearT 2000000 t → ∀ d, 0 ≤ d → OkT b f (mapT (fSh a f) t d) d) ?_ t
  intro op n s k C N W Q m ok K G _ _ ih hn d hd
  rw [NearT_nd] at hn
  rw [sh_nd, OkT_nd]
  refine ⟨?_, fun i hi => ?_⟩
  · have h1 := hn.1
    unfold shN
    split
    · rename_i h
      obtain ⟨⟨v1, v2, v3⟩, v4⟩ := h
      have h1 := h1 v1
      rw [clampI_eq (by omega)]
      intro _ _
      omega
    · rename_i h
      intro h2 h3
      exact absurd ⟨h2, h3⟩ h
  · have := bindI_le op m i
    exact ih i hi (hn.2 i hi) _ (by omega)
/-- a variable, filled -/
def fFl (len : Nat) (B : Nat → Tm) (x : Tm) (d : Int) : Tm := if numT x - d < 0 then x else if numT x - d < len then mapT (fSh d 0) (B (numT x - d).toNat) 0 else setN (numT x - len) x
section
variable {op n n1 n2 : Int} {s : ByteArray} {k : Nat} {C : Nat → Int} {N : Nat → Nat} {W Q : Nat → Nat → Int} {m : Nat} {ok : TmOk op n s k N m} {K : Nat → Tm}
theorem fl_out (len : Nat) (B : Nat → Tm) (d : Int) (h : IsV op n → n - d < 0) : mapT (fFl len B) (.nd op n s k C N W Q m ok K) d = .nd op n s k C N W Q m ok fun i => mapT (fFl len B) (K i) (d + bindI op m i) := by
  rw [mapT_nd]
  split
  · rename_i hv
    unfold fFl
    rw [numT_nd, if_pos (h hv)]
  · rfl
theorem fl_in (len : Nat) (B : Nat → Tm) (d : Int) (hv : IsV op n) (h0 : 0 ≤ n - d) (h : n - d < len) : mapT (fFl len B) (.nd op n s k C N W Q m ok K) d = mapT (fSh d 0) (B (n - d).toNat) 0 := by
  rw [mapT_nd, if_pos hv]
  unfold fFl
  rw [numT_nd, if_neg (by omega), if_pos h]
theorem fl_over (len : Nat) (B : Nat → Tm) (d : Int) (hv : IsV op n) (h : len ≤ n - d) (ok' : TmOk op (n - len) s k N m) : mapT (fFl len B) (.nd op n s k C N W Q m ok K) d = .nd op (n - len) s k C N W Q m ok' fun i => mapT (fFl len B) (K i) (d + bindI op m i) := by
  rw [mapT_nd, if_pos hv]
  unfold fFl
  rw [numT_nd, if_neg (by omega), if_neg (by omega), setN_nd]
  exact nd_num (clampI_eq ok'.n) fun i hi => rfl
end
/-- filled is shifted back -/
theorem fl_sh (len : Nat) (hl : len ≤ 2000000) (B : Nat → Tm) (t : Tm) : NearT 2000000 t → ∀ d, 0 ≤ d → mapT (fFl len B) (mapT (fSh len 0) t d) d = t := by
  refine Tm.walk (P := fun t => NearT 2000000 t → ∀ d, 0 ≤ d → mapT (fFl len B) (mapT (fSh len 0) t d) d = t) ?_ t
  intro op n s k C N W Q m ok K G _ _ ih hn d hd
  rw [NearT_nd] at hn
  have hk : ∀ i, i < m → mapT (fFl len B) (mapT (fSh len 0) (K i) (d + bindI op m i)) (d + bindI op m i) = K i := fun i hi => ih i hi (hn.2 i hi) _ (by have := bindI_le op m i; omega)
  have h1 := hn.1
  have hok := ok.n
  rw [sh_nd]
  by_cases hv : IsV op n ∧ 0 ≤ n - d
  · obtain ⟨⟨v1, v2, v3⟩, v4⟩ := hv
    have h1 := h1 v1
    have e : shN len 0 op n d = n + len := by unfold shN; rw [if_pos ⟨⟨v1, v2, v3⟩, v4⟩, clampI_eq (by omega)]
    rw [fl_over len B d (by rw [e]; exact ⟨v1, by omega, by omega⟩) (by rw [e]; omega) ⟨ok.op, by rw [e]; omega, ok.s, ok.k, ok.N, ok.m⟩]
    exact nd_num (by rw [e]; omega) hk
  · have e : shN len 0 op n d = n := by unfold shN; rw [if_neg hv]
    rw [fl_out len B d (by rw [e]; intro x; exact Int.not_le.1 fun h => hv ⟨x, h⟩)]
    exact nd_num e hk
theorem NearT.sh {b a : Int} (ha : 0 ≤ a) (frm : Int) (t : Tm) (hb : 0 ≤ b ∧ b + a ≤ 1000000000) : NearT b t → ∀ d, NearT (b + a) (mapT (fSh a frm) t d) := by
  refine Tm.walk (P := fun t => NearT b t → ∀ d, NearT (b + a) (mapT (fSh a frm) t d)) ?_ t
  intro op n s k C N W Q m ok K G _ _ ih hn d
  rw [NearT_nd] at hn
  rw [sh_nd, NearT_nd]
  refine ⟨fun h0 => ?_, fun i hi => ih i hi (hn.2 i hi) _⟩
  have h1 := hn.1 h0
  have hok := ok.n
  unfold shN
  split
  · rename_i h
    obtain ⟨⟨v1, v2, v3⟩, v4⟩ := h
    rw [clampI_eq (by omega)]; omega
  · omega
theorem NearT.mono {b a : Int} (h : b ≤ a) (t : Tm) : NearT b t → NearT a t := by
  refine Tm.walk (P := fun t => NearT b t → NearT a t) ?_ t
  intro op n s k C N W Q m ok K G _ _ ih hn
  rw [NearT_nd] at hn ⊢
  exact ⟨fun h0 => by have := hn.1 h0; omega, fun i hi => ih i hi (hn.2 i hi)⟩
/-- shifting goes along with filling -/
theorem fl_up (len : Nat) (hl : len ≤ 1000000) (B : Nat → Tm) (hB : ∀ i, i < len → NearT 2000000 (B i)) {a : Int} (ha : 0 ≤ a ∧ a ≤ 100000) (t : Tm) : NearT 2000000 t → ∀ d : Int, 0 ≤ d → d + 4 * nodesT t ≤ 1000000 →
    mapT (fFl len B) (mapT (fSh a 0) t d) (d + a) = mapT (fSh a 0) (mapT (fFl len B) t d) d := by
  refine Tm.walk (P := fun t => NearT 2000000 t → ∀ d : Int, 0 ≤ d → d + 4 * nodesT t ≤ 1000000 → mapT (fFl len B) (mapT (fSh a 0) t d) (d + a) = mapT (fSh a 0) (mapT (fFl len B) t d) d) ?_ t
  intro op n s k C N W Q m ok K G _ _ ih hn d hd hs
  rw [NearT_nd] at hn
  rw [nodesT_nd] at hs
  have hk : ∀ i, i < m → mapT (fFl len B) (mapT (fSh a 0) (K i) (d + bindI op m i)) (d + a + bindI op m i) = mapT (fSh a 0) (mapT (fFl len B) (K i) (d + bindI op m i)) (d + bindI op m i) := fun i hi => by
    have hb := bindI_le op m i
    have h1 := sumF_one (f := fun i => nodesT (K i)) hi
    have := ih i hi (hn.2 i hi) (d + bindI op m i) (by omega) (by omega)
    rw [show d + a + bindI op m i = d + bindI op m i + a by omega]
    exact this
  have h1 := hn.1
  have hok := ok.n
  rw [sh_nd]
  by_cases hv : IsV op n
  · have hv' := hv
    obtain ⟨v1, v2, v3⟩ := hv
    have h1 := h1 v1
    by_cases h0 : 0 ≤ n - d
    · have e : shN a 0 op n d = n + a := by unfold shN; rw [if_pos ⟨hv', h0⟩, clampI_eq (by omega)]
      by_cases hlt : n - d < len
      · rw [fl_in len B (d + a) (by rw [e]; exact ⟨v1, by omega, by omega⟩) (by rw [e]; omega) (by rw [e]; omega), fl_in len B d hv' h0 hlt]
        rw [show shN a 0 op n d - (d + a) = n - d by rw [e]; omega]
        have := sh_sh (a := d) (b := a) (c := 0) (e := d) ⟨hd, by omega⟩ ⟨by omega, by omega⟩ (Int.le_refl _) ⟨hd, Int.le_refl _⟩ (f := 0) (Int.le_refl _) (B (n - d).toNat) (hB _ (by omega)) 0 (Int.le_refl _)
        rw [Int.zero_add] at this
        exact this.symm
      · rw [fl_over len B (d + a) (by rw [e]; exact ⟨v1, by omega, by omega⟩) (by rw [e]; omega) ⟨ok.op, by rw [e]; omega, ok.s, ok.k, ok.N, ok.m⟩, fl_over len B d hv' (by omega) ⟨ok.op, by omega, ok.s, ok.k, ok.N, ok.m⟩, sh_nd]
        refine nd_num ?_ hk
        rw [e]
        unfold shN
        rw [if_pos ⟨⟨v1, by omega, by omega⟩, by omega⟩, clampI_eq (by omega)]
        omega
    · have e : shN a 0 op n d = n := by unfold shN; rw [if_neg fun x => h0 x.2]
      rw [fl_out len B (d + a) (by rw [e]; intro _; omega), fl_out len B d (fun _ => by omega), sh_nd]
      exact nd_num (by rw [e]) hk
  · have e : shN a 0 op n d = n := by unfold shN; rw [if_neg fun x => hv x.1]
    rw [fl_out len B (d + a) (by rw [e]; exact fun h => absurd h hv), fl_out len B d (fun h => absurd h hv), sh_nd]
    exact nd_num (by rw [e]) hk
/-- filled twice -/
theorem fl_fl (l m' : Nat) (hl : l ≤ 1000 ∧ m' ≤ 1000) (B M : Nat → Tm) (hB : ∀ i, i < l → NearT 2000000 (B i) ∧ 4 * nodesT (B i) ≤ 10000) (hM : ∀ i, i < m' → NearT 2000000 (M i)) (t : Tm) : NearT 2000000 t → ∀ d : Int, 0 ≤ d → d + 4 * nodesT t ≤ 10000 →
    mapT (fFl m' M) (mapT (fFl l B) t d) d = mapT (fFl (l + m') fun i => if i < l then mapT (fFl m' M) (B i) 0 else M (i - l)) t d := by
  refine Tm.walk (P := fun t => NearT 2000000 t → ∀ d : Int, 0 ≤ d → d + 4 * nodesT t ≤ 10000 → mapT (fFl m' M) (mapT (fFl l B) t d) d = mapT (fFl (l + m') fun i => if i < l then mapT (fFl m' M) (B i) 0 else M (i - l)) t d) ?_ t
  intro op n s k C N W Q m ok K G _ _ ih hn d hd hs
  rw [NearT_nd] at hn
  rw [nodesT_nd] at hs
  have hk := fun i (hi : i < m) => (by
    have hb := bindI_le op m i
    have h1 := sumF_one (f := fun i => nodesT (K i)) hi
    exact ih i hi (hn.2 i hi) (d + bindI op m i) (by omega) (by omega))
  have h1 := hn.1
  have hok := ok.n
  by_cases hv : IsV op n
  · have hv' := hv
    obtain ⟨v1, v2, v3⟩ := hv
    have h1 := h1 v1
    by_cases h0 : 0 ≤ n - d
    · by_cases hlt : n - d < l
      · rw [fl_in l B d hv' h0 hlt, fl_in (l + m') _ d hv' h0 (by omega)]
        rw [if_pos (by omega)]
        have hBi := hB (n - d).toNat (by omega)
        have := fl_up m' (by omega) M hM (a := d) ⟨hd, by omega⟩ (B (n - d).toNat) hBi.1 0 (Int.le_refl _) (by have := hBi.2; omega)
        rw [Int.zero_add] at this
        exact this
      · rw [fl_over l B d hv' (by omega) ⟨ok.op, by omega, ok.s, ok.k, ok.N, ok.m⟩]
        by_cases hlt2 : n - d < l + m'
        · rw [fl_in m' M d ⟨v1, by omega, by omega⟩ (by omega) (by omega), fl_in (l + m') _ d hv' h0 (by omega)]
          rw [if_neg (by omega)]
          rw [show (n - ↑l - d).toNat = (n - d).toNat - l by omega]
        · rw [fl_over m' M d ⟨v1, by omega, by omega⟩ (by omega) ⟨ok.op, by omega, ok.s, ok.k, ok.N, ok.m⟩, fl_over (l + m') _ d hv' (by omega) ⟨ok.op, by omega, ok.s, ok.k, ok.N, ok.m⟩]
          exact nd_num (by omega) hk
    · rw [fl_out l B d (fun _ => by omega), fl_out m' M d (fun _ => by omega), fl_out (l + m') _ d (fun _ => by omega)]
      exact nd_num rfl hk
  · rw [fl_out l B d (fun h => absurd h hv), fl_out m' M d (fun h => absurd h hv), fl_out (l + m') _ d (fun h => absurd h hv)]
    exact nd_num rfl hk
end Go.VM

namespace Go.VM
open Go.Proofs Go
set_option maxRecDepth 100000
set_option linter.unusedVariables false
set_option linter.unusedSimpArgs false
/-- which parts are proofs, of whatever number -/
def PrfI (op n : Int) (m : Nat) (i : Int) : Prop := 0 ≤ i ∧ i < m ∧ ((op = 7 ∧ i = 1 ∧ n = 1) ∨ (op = 9 ∧ ((i = 2 ∧ ¬ bitF .and .i64 n 1 = 0) ∨ (i = 3 ∧ ¬ bitF .and .i64 n 2 = 0))) ∨ ((op = 17 ∨ op = 22) ∧ i = 1) ∨ (op = 21 ∧ i = 2) ∨ (op = 23 ∧ 2 ≤ i ∧ i ≤ 4) ∨ (op = 25 ∧ i = 3) ∨ (op = 20 ∧ (i = 4 ∨ i = 5)))
theorem bindsT (op n : Int) (s : ByteArray) (k : Nat) (C : Nat → Int) (N : Nat → Nat) (W Q : Nat → Nat → Int) (m : Nat) (G : Nat → Nat → D) (i : Int) (hm : m < 2 ^ 62) : VFun (P ()) 75 [tml op n s k C N W Q m G, .d (.int .i64 i)] (fun r => r = .d (.int .i64 (bindI op m i))) := by
  refine vfunL (Tf := fun {_} _ => fzT [2] (T ())) (fun {_} => tabOk.frz [2]) [] 400 Tryz.func75 rfl (fun {_} => by kernel_rfl) rfl (Nat.le_of_ble_eq_true rfl) @fun ⟨_, _, _, _, _, _, _, _, _, _, _, _, _, _, _, _, _, _, _, _, _, _, _, _, _, _, _, _, _, _, _, _, _, _, _, _, _, _, wp, wf⟩ R hR => ?_
  cbv
  try simp only [wp, (show ∀ n : Nat, _ = n from fun n => wf.2.2.2.2.2.2.2.2.2.2.2.2.2.1 (Int.ofNat n)), getL, takeL, dropL, TK.isAgg, reduceIte]
  replace hR := fun x H h => hR (.d (.int .i64 x)) H (.d (.int .i64 x)) (.d _) (congrArg (fun z => A.d (D.int .i64 z)) h)
  unfold bindI at hR
  repeat' first | (with_reducible refine And.intro ?_ ?_) | intro c9 | (refine Later.mk ?_; cbv; try simp only [wp, (show ∀ n : Nat, _ = n from fun n => wf.2.2.2.2.2.2.2.2.2.2.2.2.2.1 (Int.ofNat n)), (show _ = (0 : Nat) from wf.2.2.2.2.2.2.2.2.2.2.2.2.2.1 0), getL, takeL, dropL, TK.isAgg, reduceIte])
  all_goals exact hR _ _ (by clear hR; ((try simp only [wf, nc, nc', Int.toNat_natCast, bsz, ByteArray.size_append, List.length_cons, List.length_nil] at *); (try simp (disch := omega) only [w64, w32, wu8] at *)); repeat' (first | omega | split))
theorem bindsR (op n : Int) (s : ByteArray) (k : Nat) (C : Nat → Int) (N : Nat → Nat) (W Q : Nat → Nat → Int) (m : Nat) (G : Nat → Nat → D) (i : Int) (hm : m < 2 ^ 62) : VFun (P ()) 69 [tml op n s k C N W Q m G, .d (.int .i64 i)] (fun r => r = .d (.int .i64 (bindI op m i))) := by
  refine vfunL (Tf := fun {_} _ => fzT [2] (T ())) (fun {_} => tabOk.frz [2]) [] 400 Tryz.func69 rfl (fun {_} => by kernel_rfl) rfl (Nat.le_of_ble_eq_true rfl) @fun ⟨_, _, _, _, _, _, _, _, _, _, _, _, _, _, _, _, _, _, _, _, _, _, _, _, _, _, _, _, _, _, _, _, _, _, _, _, _, _, wp, wf⟩ R hR => ?_
  cbv
  try simp only [wp, (show ∀ n : Nat, _ = n from fun n => wf.2.2.2.2.2.2.2.2.2.2.2.2.2.1 (Int.ofNat n)), getL, takeL, dropL, TK.isAgg, reduceIte]
  replace hR := fun x H h => hR (.d (.int .i64 x)) H (.d (.int .i64 x)) (.d _) (congrArg (fun z => A.d (D.int .i64 z)) h)
  unfold bindI at hR
  repeat' first | (with_reducible refine And.intro ?_ ?_) | intro c9 | (refine Later.mk ?_; cbv; try simp only [wp, (show ∀ n : Nat, _ = n from fun n => wf.2.2.2.2.2.2.2.2.2.2.2.2.2.1 (Int.ofNat n)), (show _ = (0 : Nat) from wf.2.2.2.2.2.2.2.2.2.2.2.2.2.1 0), getL, takeL, dropL, TK.isAgg, reduceIte])
  all_goals exact hR _ _ (by clear hR; ((try simp only [wf, nc, nc', Int.toNat_natCast, bsz, ByteArray.size_append, List.length_cons, List.length_nil] at *); (try simp (disch := omega) only [w64, w32, wu8] at *)); repeat' (first | omega | split))
end Go.VM

namespace Go.VM
open Go.Proofs Go
set_option maxRecDepth 100000
set_option linter.unusedVariables false
set_option linter.unusedSimpArgs false
theorem cloneV (m : Nat) (g : Nat → Nat → D) (hm : m < 2 ^ 30) : VFun (P ()) 129 [.d (.sl m 2 g)] (fun r => r = .d (.sl m 2 g)) := by
  refine vfunL (Tf := fun {_} _ => fzT [] (T ())) (fun {_} => tabOk.frz []) [] 400 Tryz.func129 rfl (fun {_} => by kernel_rfl) rfl (Nat.le_of_ble_eq_true rfl) @fun ⟨_, _, _, _, _, _, _, _, _, _, _, _, _, _, _, _, _, _, _, _, _, _, _, _, _, _, _, _, _, _, _, _, _, _, _, _, _, _, wp, wf⟩ R hR => ?_
  cbv
  try simp only [wp, (show ∀ n : Nat, _ = n from fun n => wf.2.2.2.2.2.2.2.2.2.2.2.2.2.1 (Int.ofNat n)), getL, takeL, dropL, TK.isAgg, reduceIte]
  repeat' first | (with_reducible refine And.intro ?_ ?_) | intro c9 | trivial | (refine Later.mk ?_; cbv; try simp only [wp, (show ∀ n : Nat, _ = n from fun n => wf.2.2.2.2.2.2.2.2.2.2.2.2.2.1 (Int.ofNat n)), (show _ = (0 : Nat) from wf.2.2.2.2.2.2.2.2.2.2.2.2.2.1 0), getL, takeL, dropL, TK.isAgg, reduceIte])
  · subst c9
    exact hR _ _ _ (.nils _ _) rfl
  all_goals first
    | exact (by (try simp only [wf, nc, nc', Int.toNat_natCast, bsz, ByteArray.size_append, List.length_cons, List.length_nil] at *); (try simp (disch := omega) only [w64, w32, wu8] at *); first | done | omega)
    | (refine hR _ _ _ (.deq _ _ _ (.ref0 _ _ _ _ _ _ rfl rfl) ?_) rfl
       ((try simp only [wf, nc, nc', Int.toNat_natCast, bsz, ByteArray.size_append, List.length_cons, List.length_nil] at *); (try simp (disch := omega) only [w64, w32, wu8] at *))
       rw [Nat.zero_add]
       exact Deq.sl _ _ _ _ fun i j hi hj => .of_eq (by simp [appF]))
theorem cloneL (m : Nat) (g : Nat → Nat → D) (hm : m < 2 ^ 30) : VCalls (P ()) 128 [.d (.sl m 2 g)] [] (fun r H' => (m = 0 ∧ r = .nils ∧ H' = []) ∨ ∃ n' g', n' = m ∧ (∀ i j, i < m → g' i j = g i j) ∧ r = .ref 0 0 n' 2 ∧ H' = [.arr n' 2 g' 0]) := by
  refine VCalls_of_Wl (Tf := fun {_} _ => fzT [] (T ())) (fun {_} => tabOk.frz []) [] 400 Tryz.func128 rfl (fun {_} => by kernel_rfl) (Nat.le_of_ble_eq_true rfl) @fun ⟨_, _, _, _, _, _, _, _, _, _, _, _, _, _, _, _, _, _, _, _, _, _, _, _, _, _, _, _, _, _, _, _, _, _, _, _, _, _, wp, wf⟩ nH R hnH hR => ?_
  subst hnH
  cbv
  try simp only [wp, (show ∀ n : Nat, _ = n from fun n => wf.2.2.2.2.2.2.2.2.2.2.2.2.2.1 (Int.ofNat n)), getL, takeL, dropL, TK.isAgg, reduceIte]
  repeat' first | (with_reducible refine And.intro ?_ ?_) | intro c9 | trivial | (refine Later.mk ?_; cbv; try simp only [wp, (show ∀ n : Nat, _ = n from fun n => wf.2.2.2.2.2.2.2.2.2.2.2.2.2.1 (Int.ofNat n)), (show _ = (0 : Nat) from wf.2.2.2.2.2.2.2.2.2.2.2.2.2.1 0), getL, takeL, dropL, TK.isAgg, reduceIte])
  all_goals first
    | exact (by (try simp only [wf, nc, nc', Int.toNat_natCast, bsz, ByteArray.size_append, List.length_cons, List.length_nil] at *); (try simp (disch := omega) only [w64, w32, wu8] at *); first | done | omega)
    | exact hR _ _ (.inl ⟨(by (try simp only [wf, nc, nc', Int.toNat_natCast, bsz, ByteArray.size_append, List.length_cons, List.length_nil] at *); (try simp (disch := omega) only [w64, w32, wu8] at *); first | done | omega), rfl, rfl⟩)
    | (refine hR _ _ (.inr ⟨_, _, ?_, ?_, rfl, rfl⟩)
       · ((try simp only [wf, nc, nc', Int.toNat_natCast, bsz, ByteArray.size_append, List.length_cons, List.length_nil] at *); (try simp (disch := omega) only [w64, w32, wu8] at *))
         omega
       · intro i j hi
         ((try simp only [wf, nc, nc', Int.toNat_natCast, bsz, ByteArray.size_append, List.length_cons, List.length_nil] at *); (try simp (disch := omega) only [w64, w32, wu8] at *))
         simp [appF])
theorem cloneL' (m : Nat) (g : Nat → Nat → D) (hm : m < 2 ^ 30) {H : AHeap} {R : A → AHeap → Prop} (h0 : m = 0 → R .nils H)
    (hR : ∀ n' g', n' = m → (∀ i j, i < m → g' i j = g i j) → R (.ref H.length 0 n' 2) (H ++ [.arr n' 2 g' 0])) : CallW P 128 [.d (.sl m 2 g)] H R := by
  refine CallW.of (VCalls.fresh2 (ds := [.sl m 2 g]) (cloneL m g hm) H (R := R) ?_) fun _ _ h => h
  rintro r H' (⟨rfl, rfl, rfl⟩ | ⟨n', g', h1, h2, rfl, rfl⟩)
  · exact ⟨.nils, fun i x hx => by simp at hx, trivial, by simpa [ren] using h0 rfl⟩
  · refine ⟨.ref _ _ _ _ (by simp), fun i x hx => ?_, ⟨⟨g', 0, rfl, Nat.le_refl _, Nat.zero_le _, fun i j _ _ => .refl _⟩, trivial⟩, hR n' g' h1 h2⟩
    have hi := (List.getElem?_eq_some_iff.1 hx).1
    obtain rfl : i = 0 := by simpa using hi
    simp at hx
    subst hx
    trivial
theorem copied (k : Nat) (C : Nat → Int) (N : Nat → Nat) (W Q : Nat → Nat → Int) (hk : k < 2 ^ 30) (hN : ∀ i, i < k → N i < 2 ^ 20) : VFun (P ()) 74 [.d (.sl k 2 (lsF C N W Q))] (fun r => r = .d (.sl k 2 (lsF C N W Q))) := by
  refine vfunL (Tf := fun {_} _ => fzT [] (T ())) (fun {_} => tabOk.frz []) [] 400 Tryz.func74 rfl (fun {_} => by kernel_rfl) rfl (Nat.le_of_ble_eq_true rfl) @fun ⟨_, _, _, _, _, _, _, _, _, _, _, _, _, _, _, _, _, _, _, _, _, _, _, _, _, _, _, _, _, _, _, _, _, _, _, _, _, _, wp, wf⟩ R hR => ?_
  cbv
  try simp only [wp, (show ∀ n : Nat, _ = n from fun n => wf.2.2.2.2.2.2.2.2.2.2.2.2.2.1 (Int.ofNat n)), getL, takeL, dropL, TK.isAgg, reduceIte]
  repeat' first | (with_reducible refine And.intro ?_ ?_) | intro c9 | trivial | (refine Later.mk ?_; cbv; try simp only [wp, (show ∀ n : Nat, _ = n from fun n => wf.2.2.2.2.2.2.2.2.2.2.2.2.2.1 (Int.ofNat n)), (show _ = (0 : Nat) from wf.2.2.2.2.2.2.2.2.2.2.2.2.2.1 0), getL, takeL, dropL, TK.isAgg, reduceIte])
  · obtain rfl : k = 0 := (by (try simp only [wf, nc, nc', Int.toNat_natCast, bsz, ByteArray.size_append, List.length_cons, List.length_nil] at *); (try simp (disch := omega) only [w64, w32, wu8] at *); first | done | omega)
    exact hR _ _ _ (.nils _ _) rfl
  have k0 : k ≠ 0 := fun h => c9 (by have := h; exact (by (try simp only [wf, nc, nc', Int.toNat_natCast, bsz, ByteArray.size_append, List.length_cons, List.length_nil] at *); (try simp (disch := omega) only [w64, w32, wu8] at *); first | done | omega))
  refine cloneL' k (lsF C N W Q) hk (fun h => absurd h k0) fun n' g' h1 h2 => ?_
  subst h1
  (cbv; try simp only [wp, (show ∀ n : Nat, _ = n from fun n => wf.2.2.2.2.2.2.2.2.2.2.2.2.2.1 (Int.ofNat n)), (show _ = (0 : Nat) from wf.2.2.2.2.2.2.2.2.2.2.2.2.2.1 0), getL, takeL, dropL, TK.isAgg, reduceIte])
  refine loopL (Tf := fun {_} _ => fzT [] (T ())) (fun {_} => tabOk.frz []) [] 400 (fun i : Nat => ⟨[.undef, .undef, .undef, .ref 0 0 n' 2, .undef, .undef, .undef, .undef, .undef, .undef, .undef, .d (.int .i64 n'), .d (.int .i64 i), .undef, .undef, .undef, .undef, .undef, .undef, .undef, .undef, .undef, .undef, .undef, .undef, .undef, .undef], [.arr n' 2 (lsF C N W Q) 0]⟩) (fun i => n' - i) (fun i => i ≤ n') 0 (Nat.zero_le _) (fun {_} => by kernel_rfl) ?_ (fun i => by kernel_rfl) @fun ⟨_, _, _, _, _, _, _, _, _, _, _, _, _, _, _, _, _, _, _, _, _, _, _, _, _, _, _, _, _, _, _, _, _, _, _, _, _, _, wpa, wfa⟩ i Bk hi hBk => ?_
  · (cbv; try simp only [wf, exD, exL, exT, exB, exA, leLs, leL_d, leL_undef, leL_nils, leA_nils, deq_refl, deq_int, deq_bool, deq_str, and_true, true_and, AObj.iter.injEq, nc, nc']; try simp (disch := omega) only [w64, w32, wu8])
    exact ⟨rfl, Nat.le_refl _, Nat.zero_le _, fun i j hi _ => .of_eq (h2 i j hi)⟩
  (cbv; try simp only [wp, (show ∀ n : Nat, _ = n from fun n => wf.2.2.2.2.2.2.2.2.2.2.2.2.2.1 (Int.ofNat n)), (show _ = (0 : Nat) from wf.2.2.2.2.2.2.2.2.2.2.2.2.2.1 0), wpa, (show ∀ n : Nat, _ = n from fun n => wfa.2.2.2.2.2.2.2.2.2.2.2.2.2.1 (Int.ofNat n)), (show _ = (0 : Nat) from wfa.2.2.2.2.2.2.2.2.2.2.2.2.2.1 0), getL, takeL, dropL, TK.isAgg, reduceIte])
  refine ⟨fun e => ?_, fun e => ?_⟩
  · have e : i < n' := (by (try simp only [wf, wfa, nc, nc', Int.toNat_natCast, bsz, ByteArray.size_append, List.length_cons, List.length_nil] at *); (try simp (disch := omega) only [w64, w32, wu8] at *); first | done | omega)
    have hc := cloneV (N i) (lvF (W i) (Q i)) (by have := hN i e; omega)
    (refine Later.mk ?_; cbv; try simp only [wp, (show ∀ n : Nat, _ = n from fun n => wf.2.2.2.2.2.2.2.2.2.2.2.2.2.1 (Int.ofNat n)), (show _ = (0 : Nat) from wf.2.2.2.2.2.2.2.2.2.2.2.2.2.1 0), wpa, (show ∀ n : Nat, _ = n from fun n => wfa.2.2.2.2.2.2.2.2.2.2.2.2.2.1 (Int.ofNat n)), (show _ = (0 : Nat) from wfa.2.2.2.2.2.2.2.2.2.2.2.2.2.1 0), getL, takeL, dropL, TK.isAgg, reduceIte])
    repeat' first | (with_reducible refine And.intro ?_ ?_) | intro c9 | trivial | (refine Later.mk ?_; cbv; try simp only [wp, (show ∀ n : Nat, _ = n from fun n => wf.2.2.2.2.2.2.2.2.2.2.2.2.2.1 (Int.ofNat n)), (show _ = (0 : Nat) from wf.2.2.2.2.2.2.2.2.2.2.2.2.2.1 0), wpa, (show ∀ n : Nat, _ = n from fun n => wfa.2.2.2.2.2.2.2.2.2.2.2.2.2.1 (Int.ofNat n)), (show _ = (0 : Nat) from wfa.2.2.2.2.2.2.2.2.2.2.2.2.2.1 0), getL, takeL, dropL, TK.isAgg, reduceIte])
    all_goals first | exact (by (try simp only [wf, wfa, nc, nc', Int.toNat_natCast, bsz, ByteArray.size_append, List.length_cons, List.length_nil] at *); (try simp (disch := omega) only [w64, w32, wu8] at *); first | done | omega) | skip
    refine hc.call ?_
    rintro _ rfl
    (cbv; try simp only [wp, (show ∀ n : Nat, _ = n from fun n => wf.2.2.2.2.2.2.2.2.2.2.2.2.2.1 (Int.ofNat n)), (show _ = (0 : Nat) from wf.2.2.2.2.2.2.2.2.2.2.2.2.2.1 0), wpa, (show ∀ n : Nat, _ = n from fun n => wfa.2.2.2.2.2.2.2.2.2.2.2.2.2.1 (Int.ofNat n)), (show _ = (0 : Nat) from wfa.2.2.2.2.2.2.2.2.2.2.2.2.2.1 0), getL, takeL, dropL, TK.isAgg, reduceIte])
    repeat' first | (with_reducible refine And.intro ?_ ?_) | intro c9 | trivial | (refine Later.mk ?_; cbv; try simp only [wp, (show ∀ n : Nat, _ = n from fun n => wf.2.2.2.2.2.2.2.2.2.2.2.2.2.1 (Int.ofNat n)), (show _ = (0 : Nat) from wf.2.2.2.2.2.2.2.2.2.2.2.2.2.1 0), wpa, (show ∀ n : Nat, _ = n from fun n => wfa.2.2.2.2.2.2.2.2.2.2.2.2.2.1 (Int.ofNat n)), (show _ = (0 : Nat) from wfa.2.2.2.2.2.2.2.2.2.2.2.2.2.1 0), getL, takeL, dropL, TK.isAgg, reduceIte])
    all_goals first
      | exact (by (try simp only [wf, wfa, nc, nc', Int.toNat_natCast, bsz, ByteArray.size_append, List.length_cons, List.length_nil] at *); (try simp (disch := omega) only [w64, w32, wu8] at *); first | done | omega)
      | (refine hBk (i + 1) _ (by omega) (by omega) ?_
         (cbv; try simp only [wf, wfa, exD, exL, exT, exB, exA, leLs, leL_d, leL_undef, leL_nils, leA_nils, deq_refl, deq_int, deq_bool, deq_str, and_true, true_and, AObj.iter.injEq, nc, nc']; try simp (disch := omega) only [w64, w32, wu8])
         ((try simp only [wf, wfa, nc, nc', Int.toNat_natCast, bsz, ByteArray.size_append, List.length_cons, List.length_nil] at *); (try simp (disch := omega) only [w64, w32, wu8] at *))
         refine ⟨by omega, Nat.le_refl _, Nat.zero_le _, fun x j hx hj => ?_⟩
         unfold updF
         split
         · rename_i h
           obtain ⟨rfl, rfl⟩ := h
           exact .of_eq rfl
         · exact .refl _)
  · obtain rfl : i = n' := (by (try simp only [wf, wfa, nc, nc', Int.toNat_natCast, bsz, ByteArray.size_append, List.length_cons, List.length_nil] at *); (try simp (disch := omega) only [w64, w32, wu8] at *); first | done | omega)
    (refine Later.mk ?_; cbv; try simp only [wp, (show ∀ n : Nat, _ = n from fun n => wf.2.2.2.2.2.2.2.2.2.2.2.2.2.1 (Int.ofNat n)), (show _ = (0 : Nat) from wf.2.2.2.2.2.2.2.2.2.2.2.2.2.1 0), wpa, (show ∀ n : Nat, _ = n from fun n => wfa.2.2.2.2.2.2.2.2.2.2.2.2.2.1 (Int.ofNat n)), (show _ = (0 : Nat) from wfa.2.2.2.2.2.2.2.2.2.2.2.2.2.1 0), getL, takeL, dropL, TK.isAgg, reduceIte])
    exact hR _ _ _ (.ref0 0 i 2 i 0 _ rfl rfl) rfl
end Go.VM

namespace Go.VM
open Go.Proofs Go
set_option maxRecDepth 100000
set_option linter.unusedVariables false
set_option linter.unusedSimpArgs false
theorem variableT (op n : Int) (s : ByteArray) (k : Nat) (C : Nat → Int) (N : Nat → Nat) (W Q : Nat → Nat → Int) (m : Nat) (G : Nat → Nat → D) : VFun (P ()) 76 [tml op n s k C N W Q m G] (fun r => ∃ b : Bool, (b = true ↔ IsV op n) ∧ r = .d (.bool b)) := by
  refine vfunL (Tf := fun {_} _ => fzT [1] (T ())) (fun {_} => tabOk.frz [1]) [] 400 Tryz.func76 rfl (fun {_} => by kernel_rfl) rfl (Nat.le_of_ble_eq_true rfl) @fun ⟨_, _, _, _, _, _, _, _, _, _, _, _, _, _, _, _, _, _, _, _, _, _, _, _, _, _, _, _, _, _, _, _, _, _, _, _, _, _, wp, wf⟩ R hR => ?_
  cbv
  try simp only [wp, (show ∀ n : Nat, _ = n from fun n => wf.2.2.2.2.2.2.2.2.2.2.2.2.2.1 (Int.ofNat n)), getL, takeL, dropL, TK.isAgg, reduceIte]
  replace hR := fun b H h => hR _ H (.d (.bool b)) (.d _) ⟨b, h, rfl⟩
  repeat' first | (with_reducible refine And.intro ?_ ?_) | intro c9 | (refine Later.mk ?_; cbv; try simp only [wp, (show ∀ n : Nat, _ = n from fun n => wf.2.2.2.2.2.2.2.2.2.2.2.2.2.1 (Int.ofNat n)), (show _ = (0 : Nat) from wf.2.2.2.2.2.2.2.2.2.2.2.2.2.1 0), getL, takeL, dropL, TK.isAgg, reduceIte])
  all_goals first
    | exact hR true _ (iffT (by clear hR; ((try simp only [wf, nc, nc', Int.toNat_natCast, bsz, ByteArray.size_append, List.length_cons, List.length_nil] at *); (try simp (disch := omega) only [w64, w32, wu8] at *)); unfold IsV; omega))
    | exact hR false _ (iffF (by clear hR; ((try simp only [wf, nc, nc', Int.toNat_natCast, bsz, ByteArray.size_append, List.length_cons, List.length_nil] at *); (try simp (disch := omega) only [w64, w32, wu8] at *)); unfold IsV; omega))
theorem variableR (op n : Int) (s : ByteArray) (k : Nat) (C : Nat → Int) (N : Nat → Nat) (W Q : Nat → Nat → Int) (m : Nat) (G : Nat → Nat → D) : VFun (P ()) 66 [tml op n s k C N W Q m G] (fun r => ∃ b : Bool, (b = true ↔ IsV op n) ∧ r = .d (.bool b)) := by
  refine vfunL (Tf := fun {_} _ => fzT [1] (T ())) (fun {_} => tabOk.frz [1]) [] 400 Tryz.func66 rfl (fun {_} => by kernel_rfl) rfl (Nat.le_of_ble_eq_true rfl) @fun ⟨_, _, _, _, _, _, _, _, _, _, _, _, _, _, _, _, _, _, _, _, _, _, _, _, _, _, _, _, _, _, _, _, _, _, _, _, _, _, wp, wf⟩ R hR => ?_
  cbv
  try simp only [wp, (show ∀ n : Nat, _ = n from fun n => wf.2.2.2.2.2.2.2.2.2.2.2.2.2.1 (Int.ofNat n)), getL, takeL, dropL, TK.isAgg, reduceIte]
  replace hR := fun b H h => hR _ H (.d (.bool b)) (.d _) ⟨b, h, rfl⟩
  repeat' first | (with_reducible refine And.intro ?_ ?_) | intro c9 | (refine Later.mk ?_; cbv; try simp only [wp, (show ∀ n : Nat, _ = n from fun n => wf.2.2.2.2.2.2.2.2.2.2.2.2.2.1 (Int.ofNat n)), (show _ = (0 : Nat) from wf.2.2.2.2.2.2.2.2.2.2.2.2.2.1 0), getL, takeL, dropL, TK.isAgg, reduceIte])
  all_goals first
    | exact hR true _ (iffT (by clear hR; ((try simp only [wf, nc, nc', Int.toNat_natCast, bsz, ByteArray.size_append, List.length_cons, List.length_nil] at *); (try simp (disch := omega) only [w64, w32, wu8] at *)); unfold IsV; omega))
    | exact hR false _ (iffF (by clear hR; ((try simp only [wf, nc, nc', Int.toNat_natCast, bsz, ByteArray.size_append, List.length_cons, List.length_nil] at *); (try simp (disch := omega) only [w64, w32, wu8] at *)); unfold IsV; omega))
/-- the objects that a shift works with -/
abbrev hpSh (frm by' : Int) (y : Bool) : AHeap := [.box [.d (.int .i64 frm)], .box [.d (.int .i64 by')], .box [.d (.bool y)]]
set_option maxHeartbeats 1000000 in
theorem shift1 (frm by' d : Int) (y : Bool) (op n : Int) (s : ByteArray) (k : Nat) (C : Nat → Int) (N : Nat → Nat) (W Q : Nat → Nat → Int) (m : Nat) (G : Nat → Nat → D) (h1 : IsV op n) (h2 : 0 ≤ d ∧ d ≤ 8000000) (h3 : 0 ≤ frm ∧ frm ≤ 2147483648) (h4 : -2147483648 ≤ by' ∧ by' ≤ 2147483648) :
    VCalls (P ()) 44 [tml op n s k C N W Q m G, .d (.int .i64 d), .ptr 0 0, .ptr 1 0, .ptr 2 0] (hpSh frm by' y) (fun r H => ∃ K2, r = tml op (shN by' frm op n d) s k C N W Q m G ∧ H = hpSh frm by' (stSh by' frm n d y) ++ K2) := by
  obtain ⟨v1, v2, v3⟩ := h1
  have e1 : frm ≤ n - d → shN by' frm op n d = n + by' := fun h => by unfold shN; rw [if_pos ⟨⟨v1, v2, v3⟩, h⟩, clampI_eq (by omega)]
  have e2 : n - d < frm → shN by' frm op n d = n := fun h => by unfold shN; rw [if_neg fun h' => by have := h'.2; omega]
  have f1 : ∀ b, frm ≤ n - d → (b = true ↔ y = true ∧ frm ≤ n + by' - d) → stSh by' frm n d y = b := fun b h hb => by
    unfold stSh
    rw [if_pos h]
    exact Bool.eq_iff_iff.2 (by rw [hb, Bool.and_eq_true, decide_eq_true_iff])
  have f2 : n - d < frm → stSh by' frm n d y = y := fun h => by unfold stSh; rw [if_neg (by omega)]
  cases y
  · skip
    refine VCalls_of_Wl (Tf := fun {_} _ => fzT [] (T ())) (fun {_} => tabOk.frz []) [] 400 Tryz.func44 rfl (fun {_} => by kernel_rfl) (Nat.le_of_ble_eq_true rfl) @fun ⟨_, _, _, _, _, _, _, _, _, _, _, _, _, _, _, _, _, _, _, _, _, _, _, _, _, _, _, _, _, _, _, _, _, _, _, _, _, _, wp, wf⟩ nH R hnH hR => ?_
    subst hnH
    cbv
    try simp only [wp, (show ∀ n : Nat, _ = n from fun n => wf.2.2.2.2.2.2.2.2.2.2.2.2.2.1 (Int.ofNat n)), getL, takeL, dropL, TK.isAgg, reduceIte]
    have hA : frm ≤ n - d → ∀ K2 x b, n + by' = x → (b = true ↔ false = true ∧ frm ≤ n + by' - d) → R (tml op x s k C N W Q m G) (hpSh frm by' b ++ K2) := fun h K2 x b hx hb => hR _ _ ⟨K2, by rw [e1 h, hx], by rw [f1 b h hb]⟩
    have hB : n - d < frm → ∀ K2, R (tml op n s k C N W Q m G) (hpSh frm by' false ++ K2) := fun h K2 => hR _ _ ⟨K2, by rw [e2 h], by rw [f2 h]⟩
    clear hR e1 e2 f1 f2
    repeat' first | (with_reducible refine And.intro ?_ ?_) | intro c9 | (refine Later.mk ?_; cbv; try simp only [wp, (show ∀ n : Nat, _ = n from fun n => wf.2.2.2.2.2.2.2.2.2.2.2.2.2.1 (Int.ofNat n)), (show _ = (0 : Nat) from wf.2.2.2.2.2.2.2.2.2.2.2.2.2.1 0), getL, takeL, dropL, TK.isAgg, reduceIte])
    all_goals first
      | exact hB (by clear hA hB; exact (by (try simp only [wf, nc, nc', Int.toNat_natCast, bsz, ByteArray.size_append, List.length_cons, List.length_nil] at *); (try simp (disch := omega) only [w64, w32, wu8] at *); first | done | omega)) _
      | exact hA (by clear hA hB; exact (by (try simp only [wf, nc, nc', Int.toNat_natCast, bsz, ByteArray.size_append, List.length_cons, List.length_nil] at *); (try simp (disch := omega) only [w64, w32, wu8] at *); first | done | omega)) _ _ _ (by clear hA hB; exact (by (try simp only [wf, nc, nc', Int.toNat_natCast, bsz, ByteArray.size_append, List.length_cons, List.length_nil] at *); (try simp (disch := omega) only [w64, w32, wu8] at *); first | done | omega)) (iffF fun h => by cases h.1)
  · skip
    refine VCalls_of_Wl (Tf := fun {_} _ => fzT [] (T ())) (fun {_} => tabOk.frz []) [] 400 Tryz.func44 rfl (fun {_} => by kernel_rfl) (Nat.le_of_ble_eq_true rfl) @fun ⟨_, _, _, _, _, _, _, _, _, _, _, _, _, _, _, _, _, _, _, _, _, _, _, _, _, _, _, _, _, _, _, _, _, _, _, _, _, _, wp, wf⟩ nH R hnH hR => ?_
    subst hnH
    cbv
    try simp only [wp, (show ∀ n : Nat, _ = n from fun n => wf.2.2.2.2.2.2.2.2.2.2.2.2.2.1 (Int.ofNat n)), getL, takeL, dropL, TK.isAgg, reduceIte]
    have hA : frm ≤ n - d → ∀ K2 x b, n + by' = x → (b = true ↔ true = true ∧ frm ≤ n + by' - d) → R (tml op x s k C N W Q m G) (hpSh frm by' b ++ K2) := fun h K2 x b hx hb => hR _ _ ⟨K2, by rw [e1 h, hx], by rw [f1 b h hb]⟩
    have hB : n - d < frm → ∀ K2, R (tml op n s k C N W Q m G) (hpSh frm by' true ++ K2) := fun h K2 => hR _ _ ⟨K2, by rw [e2 h], by rw [f2 h]⟩
    clear hR e1 e2 f1 f2
    repeat' first | (with_reducible refine And.intro ?_ ?_) | intro c9 | (refine Later.mk ?_; cbv; try simp only [wp, (show ∀ n : Nat, _ = n from fun n => wf.2.2.2.2.2.2.2.2.2.2.2.2.2.1 (Int.ofNat n)), (show _ = (0 : Nat) from wf.2.2.2.2.2.2.2.2.2.2.2.2.2.1 0), getL, takeL, dropL, TK.isAgg, reduceIte])
    all_goals first
      | exact hB (by clear hA hB; exact (by (try simp only [wf, nc, nc', Int.toNat_natCast, bsz, ByteArray.size_append, List.length_cons, List.length_nil] at *); (try simp (disch := omega) only [w64, w32, wu8] at *); first | done | omega)) _
      | exact hA (by clear hA hB; exact (by (try simp only [wf, nc, nc', Int.toNat_natCast, bsz, ByteArray.size_append, List.length_cons, List.length_nil] at *); (try simp (disch := omega) only [w64, w32, wu8] at *); first | done | omega)) _ _ _ (by clear hA hB; exact (by (try simp only [wf, nc, nc', Int.toNat_natCast, bsz, ByteArray.size_append, List.length_cons, List.length_nil] at *); (try simp (disch := omega) only [w64, w32, wu8] at *); first | done | omega)) (by clear hA hB; first | exact iffT ⟨rfl, (by (try simp only [wf, nc, nc', Int.toNat_natCast, bsz, ByteArray.size_append, List.length_cons, List.length_nil] at *); (try simp (disch := omega) only [w64, w32, wu8] at *); first | done | omega)⟩ | exact iffF fun h => (by have h := h.2; exact absurd h (by (try simp only [wf, nc, nc', Int.toNat_natCast, bsz, ByteArray.size_append, List.length_cons, List.length_nil] at *); (try simp (disch := omega) only [w64, w32, wu8] at *); first | done | omega)))
end Go.VM

namespace Go.VM
open Go.Proofs Go
set_option maxRecDepth 100000
set_option linter.unusedVariables false
set_option linter.unusedSimpArgs false
theorem CopyLevel (c : Int) (n : Nat) (V P0 : Nat → Int) (hn : n < 2 ^ 20) : VFun (P ()) 127 [lv c n V P0] (fun r => r = lv c n V P0) := by
  refine vfunO (Tf := fun {_} _ => fzT [1] (T ())) (fun {_} => tabOk.frz [1]) [] 400 Tryz.func127 rfl (fun {_} => by kernel_rfl) rfl (Nat.le_of_ble_eq_true rfl) @fun ⟨_, _, _, _, _, _, _, _, _, _, _, _, _, _, _, _, _, _, _, _, _, _, _, _, _, _, _, _, _, _, _, _, _, _, _, _, _, _, wp, wf⟩ R hR => ?_
  cbv
  try simp only [wp, (show ∀ n : Nat, _ = n from fun n => wf.2.2.2.2.2.2.2.2.2.2.2.2.2.1 (Int.ofNat n)), getL, takeL, dropL, TK.isAgg, reduceIte]
  replace hR := fun H r hf => hR r H (lv c n V P0) hf rfl
  refine loopO (Tf := fun {_} _ => fzT [1] (T ())) (fun {_} => tabOk.frz [1]) [] 400 (fun y : Nat => match y with
    | 0 => ⟨[.undef, .iptr (fun x j => getL [.int .i64 c, .sl n 2 (lvF V P0)] j .nilp) 0 0 2, .ptr 0 0, .ptr 1 0, .d (.int .i64 0), .undef, .undef, .undef, .undef, .undef, .undef, .undef, .undef, .undef, .undef, .undef, .undef, .undef, .undef, .undef, .undef, .undef, .undef, .undef, .undef, .undef], [.box [.d (.int .i64 0), .nils], .box [.d (.int .i64 c), .nils]]⟩
    | i + 1 => ⟨[.undef, .iptr (fun x j => getL [.int .i64 c, .sl n 2 (lvF V P0)] j .nilp) 0 0 2, .ptr 0 0, .ptr 1 0, .d (.int .i64 (i + 1 : Nat)), .undef, .undef, .undef, .undef, .undef, .undef, .undef, .undef, .undef, .undef, .undef, .undef, .undef, .undef, .undef, .undef, .undef, .undef, .undef, .undef, .undef], [.box [.d (.int .i64 0), .nils], .box [.d (.int .i64 c), .ref 3 0 (i + 1) 2], .dead, .arr (i + 1) 2 (lvF V P0) 0]⟩) (fun y => n - y) (fun y => y ≤ n) 0 (Nat.zero_le _) (fun {_} => by kernel_rfl) ?_ (fun i => by cases i <;> kernel_rfl) @fun ⟨_, _, _, _, _, _, _, _, _, _, _, _, _, _, _, _, _, _, _, _, _, _, _, _, _, _, _, _, _, _, _, _, _, _, _, _, _, _, wpa, wfa⟩ i Bk hi hBk => ?_
  · (cbv; try simp only [wf, exD, exL, exT, exB, exA, leLs, leL_d, leL_undef, leL_nils, leA_nils, deq_refl, deq_int, deq_bool, deq_str, and_true, true_and, AObj.iter.injEq, nc, nc']; try simp (disch := omega) only [w64, w32, wu8])
    exact ⟨rfl, rfl⟩
  cases i with
  | zero =>
    (cbv; try simp only [wp, (show ∀ n : Nat, _ = n from fun n => wf.2.2.2.2.2.2.2.2.2.2.2.2.2.1 (Int.ofNat n)), (show _ = (0 : Nat) from wf.2.2.2.2.2.2.2.2.2.2.2.2.2.1 0), wpa, (show ∀ n : Nat, _ = n from fun n => wfa.2.2.2.2.2.2.2.2.2.2.2.2.2.1 (Int.ofNat n)), (show _ = (0 : Nat) from wfa.2.2.2.2.2.2.2.2.2.2.2.2.2.1 0), getL, takeL, dropL, TK.isAgg, reduceIte])
    refine ⟨fun e => ?_, fun e => ?_⟩
    · have e : 0 < n := (by (try simp only [wf, wfa, nc, nc', Int.toNat_natCast, bsz, ByteArray.size_append, List.length_cons, List.length_nil] at *); (try simp (disch := omega) only [w64, w32, wu8] at *); first | done | omega)
      (refine Later.mk ?_; cbv; try simp only [wp, (show ∀ n : Nat, _ = n from fun n => wf.2.2.2.2.2.2.2.2.2.2.2.2.2.1 (Int.ofNat n)), (show _ = (0 : Nat) from wf.2.2.2.2.2.2.2.2.2.2.2.2.2.1 0), wpa, (show ∀ n : Nat, _ = n from fun n => wfa.2.2.2.2.2.2.2.2.2.2.2.2.2.1 (Int.ofNat n)), (show _ = (0 : Nat) from wfa.2.2.2.2.2.2.2.2.2.2.2.2.2.1 0), getL, takeL, dropL, TK.isAgg, reduceIte])
      repeat' first | with_reducible refine And.intro ?_ ?_ | intro c9
      all_goals first | exact (by (try simp only [wf, wfa, nc, nc', Int.toNat_natCast, bsz, ByteArray.size_append, List.length_cons, List.length_nil] at *); (try simp (disch := omega) only [w64, w32, wu8] at *); first | done | omega) | trivial | skip
      all_goals
        refine hBk 1 _ (by omega) (by omega) ?_
        (cbv; try simp only [wf, wfa, exD, exL, exT, exB, exA, leLs, leL_d, leL_undef, leL_nils, leA_nils, deq_refl, deq_int, deq_bool, deq_str, and_true, true_and, AObj.iter.injEq, nc, nc']; try simp (disch := omega) only [w64, w32, wu8])
        exact ⟨rfl, rfl, rfl, Nat.le_refl _, Nat.zero_le _, fun x j hx hj => .of_eq (by
          obtain rfl : x = 0 := by omega
          match j, hj with
          | 0, _ => rfl
          | 1, _ => rfl)⟩
    · obtain rfl : n = 0 := by have : n ≤ 0 := (by (try simp only [wf, wfa, nc, nc', Int.toNat_natCast, bsz, ByteArray.size_append, List.length_cons, List.length_nil] at *); (try simp (disch := omega) only [w64, w32, wu8] at *); first | done | omega); omega
      (refine Later.mk ?_; cbv; try simp only [wp, (show ∀ n : Nat, _ = n from fun n => wf.2.2.2.2.2.2.2.2.2.2.2.2.2.1 (Int.ofNat n)), (show _ = (0 : Nat) from wf.2.2.2.2.2.2.2.2.2.2.2.2.2.1 0), wpa, (show ∀ n : Nat, _ = n from fun n => wfa.2.2.2.2.2.2.2.2.2.2.2.2.2.1 (Int.ofNat n)), (show _ = (0 : Nat) from wfa.2.2.2.2.2.2.2.2.2.2.2.2.2.1 0), getL, takeL, dropL, TK.isAgg, reduceIte])
      exact hR _ _ (.agg2 (.d _) (.nils _ _))
  | succ i =>
    (cbv; try simp only [wp, (show ∀ n : Nat, _ = n from fun n => wf.2.2.2.2.2.2.2.2.2.2.2.2.2.1 (Int.ofNat n)), (show _ = (0 : Nat) from wf.2.2.2.2.2.2.2.2.2.2.2.2.2.1 0), wpa, (show ∀ n : Nat, _ = n from fun n => wfa.2.2.2.2.2.2.2.2.2.2.2.2.2.1 (Int.ofNat n)), (show _ = (0 : Nat) from wfa.2.2.2.2.2.2.2.2.2.2.2.2.2.1 0), getL, takeL, dropL, TK.isAgg, reduceIte])
    refine ⟨fun e => ?_, fun e => ?_⟩
    · have e : i + 1 < n := (by (try simp only [wf, wfa, nc, nc', Int.toNat_natCast, bsz, ByteArray.size_append, List.length_cons, List.length_nil] at *); (try simp (disch := omega) only [w64, w32, wu8] at *); first | done | omega)
      (refine Later.mk ?_; cbv; try simp only [wp, (show ∀ n : Nat, _ = n from fun n => wf.2.2.2.2.2.2.2.2.2.2.2.2.2.1 (Int.ofNat n)), (show _ = (0 : Nat) from wf.2.2.2.2.2.2.2.2.2.2.2.2.2.1 0), wpa, (show ∀ n : Nat, _ = n from fun n => wfa.2.2.2.2.2.2.2.2.2.2.2.2.2.1 (Int.ofNat n)), (show _ = (0 : Nat) from wfa.2.2.2.2.2.2.2.2.2.2.2.2.2.1 0), getL, takeL, dropL, TK.isAgg, reduceIte])
      repeat' first | with_reducible refine And.intro ?_ ?_ | intro c9
      all_goals first | exact (by (try simp only [wf, wfa, nc, nc', Int.toNat_natCast, bsz, ByteArray.size_append, List.length_cons, List.length_nil] at *); (try simp (disch := omega) only [w64, w32, wu8] at *); first | done | omega) | trivial | skip
      all_goals
        refine hBk (i + 2) _ (by omega) (by omega) ?_
        (cbv; try simp only [wf, wfa, exD, exL, exT, exB, exA, leLs, leL_d, leL_undef, leL_nils, leA_nils, deq_refl, deq_int, deq_bool, deq_str, and_true, true_and, AObj.iter.injEq, nc, nc']; try simp (disch := omega) only [w64, w32, wu8])
        exact ⟨rfl, rfl, rfl, Nat.le_refl _, Nat.zero_le _, fun x j hx hj => .of_eq (app_row2 (g' := lvF V P0) (fun _ _ _ _ => rfl) (fun j hj => by
          match j, hj with
          | 0, _ => rfl
          | 1, _ => rfl) x j hx hj)⟩
    · obtain rfl : n = i + 1 := by have : n ≤ i + 1 := (by (try simp only [wf, wfa, nc, nc', Int.toNat_natCast, bsz, ByteArray.size_append, List.length_cons, List.length_nil] at *); (try simp (disch := omega) only [w64, w32, wu8] at *); first | done | omega); omega
      (refine Later.mk ?_; cbv; try simp only [wp, (show ∀ n : Nat, _ = n from fun n => wf.2.2.2.2.2.2.2.2.2.2.2.2.2.1 (Int.ofNat n)), (show _ = (0 : Nat) from wf.2.2.2.2.2.2.2.2.2.2.2.2.2.1 0), wpa, (show ∀ n : Nat, _ = n from fun n => wfa.2.2.2.2.2.2.2.2.2.2.2.2.2.1 (Int.ofNat n)), (show _ = (0 : Nat) from wfa.2.2.2.2.2.2.2.2.2.2.2.2.2.1 0), getL, takeL, dropL, TK.isAgg, reduceIte])
      exact hR _ _ (.agg2 (.d _) (.ref0 _ _ _ _ _ _ rfl rfl))
end Go.VM
