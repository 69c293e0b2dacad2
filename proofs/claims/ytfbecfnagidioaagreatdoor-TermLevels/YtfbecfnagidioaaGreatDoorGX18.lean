/- Part of the proof: TT6. -/
import Derived.Test.YtfbecfnagidioaaGreatDoorGX15
import Derived.Test.YtfbecfnagidioaaGreatDoorGV5
namespace Go.VM
open Go.Proofs Go
set_option maxRecDepth 100000
set_option linter.unusedVariables false
set_option linter.unusedSimpArgs false
theorem VCalls.pure6 [Glb] {P : Program} {K : FuncId} {args : List A} {R1 : A → AHeap → Prop} (h : VCalls P K args [] R1) (hb : belA.belAs 0 args = true) (hren : ren.renL (fun i => i) args = args) {S : A → Prop} (hr : ∀ r H', R1 r H' → ∃ y, FrzM 0 (fun i => i) H' r y ∧ S y) : VFun P K args S := fun H => by
  have h1 : VCalls P K (ren.renL (fun i => i) args) H (fun r H' => H' = H ∧ S r) := by
    refine h.frame H (fun i => i) (fun i j hi => absurd hi (Nat.not_lt_zero _)) (fun i x hx => by simp at hx) (fun i x hx => by simp at hx) (fun k hk => belAs_ok hb k hk) fun r1 H1' hR => ?_
    obtain ⟨y, h1, h2⟩ := hr r1 H1' hR
    refine Ops.exists_one.elim fun inst => ?_
    let lim : Lim := ⟨fun _ _ => True⟩
    exact ⟨y, [], H, h1, Nat.le_refl _, fun i _ hi => absurd hi (Nat.not_lt_zero _), trivial, fun i x hx => by simp at hx, by simp, fun i x hx => by simp at hx, fun o ho _ => rfl, rfl, h2⟩
  rwa [hren] at h1
def oneI (op : Int) : Int := if op = 3 ∨ (18 ≤ op ∧ op ≤ 23) ∨ op = 25 then 1 else 0
/-- a node by itself, but for its levels -/
def NodeQ (op n : Int) (s : ByteArray) (k m : Nat) : Prop :=
  1 ≤ op ∧ op ≤ 30 ∧ 0 ≤ n ∧ n ≤ mostI op ∧ ((op = 2 ∨ (26 ≤ op ∧ op ≤ 28)) → k ≤ 8) ∧ ((op = 2 ∨ (26 ≤ op ∧ op ≤ 28)) → NameP s) ∧ (¬ (op = 2 ∨ (26 ≤ op ∧ op ≤ 28)) → (k : Int) = oneI op) ∧ (¬ (op = 2 ∨ (26 ≤ op ∧ op ≤ 28)) → s.size = 0) ∧
    (op = 28 → 3 ≤ m ∧ m ≤ 11) ∧ (op ≠ 28 → (m : Int) = partsI op)
theorem most_lin (op : Int) : ((op = 1 ∨ op = 29) → mostI op = 2000) ∧ (op = 27 → mostI op = 7) ∧ ((op = 6 ∨ op = 7 ∨ op = 17 ∨ op = 25 ∨ op = 28) → mostI op = 1) ∧ ((op = 5 ∨ op = 8 ∨ op = 9) → mostI op = 3) ∧
    (¬ (op = 1 ∨ op = 29) → ¬ op = 27 → ¬ (op = 6 ∨ op = 7 ∨ op = 17 ∨ op = 25 ∨ op = 28) → ¬ (op = 5 ∨ op = 8 ∨ op = 9) → mostI op = 0) := by
  unfold mostI
  refine ⟨?_, ?_, ?_, ?_, ?_⟩ <;> (repeat' (first | omega | split))
theorem parts_lin (op : Int) : (partsI op = -2 ↔ ¬ (1 ≤ op ∧ op ≤ 30)) ∧ (partsI op = -1 ↔ op = 28) ∧ -2 ≤ partsI op := by
  unfold partsI
  refine ⟨?_, ?_, ?_⟩ <;> (repeat' (first | omega | split))
theorem one_lin (op : Int) : ((op = 3 ∨ (18 ≤ op ∧ op ≤ 23) ∨ op = 25) → oneI op = 1) ∧ (¬ (op = 3 ∨ (18 ≤ op ∧ op ≤ 23) ∨ op = 25) → oneI op = 0) := by
  unfold oneI
  refine ⟨?_, ?_⟩ <;> (repeat' (first | omega | split))
theorem idxUF (k : Nat) (C : Nat → Int) (N : Nat → Nat) (W Q : Nat → Nat → Int) (hk : k < 2 ^ 62) (hN : ∀ i, i < k → N i < 2 ^ 61) : VFun (P ()) 191 [.d (.sl k 2 (lsF C N W Q)), .clo 167 [] []]
    (fun r => ∃ x : Int, ((x = -1 ∧ ∀ i, i < k → CanP (C i) (N i) (W i) (Q i)) ∨ (0 ≤ x ∧ ∃ i, i < k ∧ ¬ CanP (C i) (N i) (W i) (Q i))) ∧ r = .d (.int .i64 x)) :=
  (idxU k C N W Q hk hN).pure6 rfl rfl fun r H h => by
    obtain ⟨x, h1, rfl⟩ := h
    exact ⟨_, .keep _ (.d _), x, h1, rfl⟩
theorem contU (k : Nat) (C : Nat → Int) (N : Nat → Nat) (W Q : Nat → Nat → Int) (hk : k < 2 ^ 62) (hN : ∀ i, i < k → N i < 2 ^ 61) : VCalls (P ()) 166 [.d (.sl k 2 (lsF C N W Q)), .clo 167 [] []] []
    (fun r H => ∃ b : Bool, (b = false ↔ ∀ i, i < k → CanP (C i) (N i) (W i) (Q i)) ∧ r = .d (.bool b)) := by
  refine VCalls_of_Wo (Tf := fun {_} _ => fzT [] (T ())) (fun {_} => tabOk.frz []) [] 400 Tryz.func166 rfl (fun {_} => by kernel_rfl) (Nat.le_of_ble_eq_true rfl) @fun ⟨_, _, _, _, _, _, _, _, _, _, _, _, _, _, _, _, _, _, _, _, _, _, _, _, _, _, _, _, _, _, _, _, _, _, _, _, _, _, wp, wf⟩ nH R hnH hR => ?_
  subst hnH
  cbv
  try simp only [wp, (show ∀ n : Nat, _ = n from fun n => wf.2.2.2.2.2.2.2.2.2.2.2.2.2.1 (Int.ofNat n)), getL, takeL, dropL, TK.isAgg, reduceIte]
  replace hR := fun b H h => hR (.d (.bool b)) H ⟨b, h, rfl⟩
  refine (idxUF k C N W Q hk hN).call ?_
  rintro _ ⟨x, hx, rfl⟩
  (cbv; try simp only [wp, (show ∀ n : Nat, _ = n from fun n => wf.2.2.2.2.2.2.2.2.2.2.2.2.2.1 (Int.ofNat n)), (show _ = (0 : Nat) from wf.2.2.2.2.2.2.2.2.2.2.2.2.2.1 0), getL, takeL, dropL, TK.isAgg, reduceIte])
  repeat' first | (with_reducible refine And.intro ?_ ?_) | intro c9 | (refine Later.mk ?_; cbv; try simp only [wp, (show ∀ n : Nat, _ = n from fun n => wf.2.2.2.2.2.2.2.2.2.2.2.2.2.1 (Int.ofNat n)), (show _ = (0 : Nat) from wf.2.2.2.2.2.2.2.2.2.2.2.2.2.1 0), getL, takeL, dropL, TK.isAgg, reduceIte])
  · refine hR true _ ⟨fun h => (by cases h), fun h => ?_⟩
    rcases hx with ⟨rfl, _⟩ | ⟨_, i, hi, hn⟩
    · exact absurd c9 (by decide)
    · exact absurd (h i hi) hn
  · refine hR false _ ⟨fun _ => ?_, fun _ => rfl⟩
    rcases hx with ⟨_, h⟩ | ⟨h, _⟩
    · exact h
    · exact absurd c9 (by omega)
theorem contUF (k : Nat) (C : Nat → Int) (N : Nat → Nat) (W Q : Nat → Nat → Int) (hk : k < 2 ^ 62) (hN : ∀ i, i < k → N i < 2 ^ 61) : VFun (P ()) 166 [.d (.sl k 2 (lsF C N W Q)), .clo 167 [] []]
    (fun r => ∃ b : Bool, (b = false ↔ ∀ i, i < k → CanP (C i) (N i) (W i) (Q i)) ∧ r = .d (.bool b)) :=
  (contU k C N W Q hk hN).pure6 rfl rfl fun r H h => by
    obtain ⟨x, h1, rfl⟩ := h
    exact ⟨_, .keep _ (.d _), x, h1, rfl⟩
theorem ba_nil {s : ByteArray} (h : s.size = 0) : s = ⟨⟨[]⟩⟩ := ByteArray.ext (Array.eq_empty_of_size_eq_zero h)
theorem ba_size {s : ByteArray} (h : s = ⟨⟨[]⟩⟩) : s.size = 0 := by rw [h]; rfl
theorem tab8 : ∀ k : Nat, k < 31 → 1 ≤ k → ((bitF .and .i64 (atL usesL k) 8 = 0) ↔ ¬ (k = 1 ∨ k = 29)) := by decide
theorem tab16 : ∀ k : Nat, k < 31 → 1 ≤ k → ((bitF .and .i64 (atL usesL k) 16 = 0) ↔ ¬ k = 27) := by decide
theorem tab32 : ∀ k : Nat, k < 31 → 1 ≤ k → ((bitF .and .i64 (atL usesL k) 32 = 0) ↔ ¬ (k = 6 ∨ k = 7 ∨ k = 17 ∨ k = 25 ∨ k = 28)) := by decide
theorem tab64 : ∀ k : Nat, k < 31 → 1 ≤ k → ((bitF .and .i64 (atL usesL k) 64 = 0) ↔ ¬ (k = 5 ∨ k = 8 ∨ k = 9)) := by decide
theorem tab2 : ∀ k : Nat, k < 31 → 1 ≤ k → ((bitF .and .i64 (atL usesL k) 2 = 0) ↔ ¬ (k = 3 ∨ (18 ≤ k ∧ k ≤ 23) ∨ k = 25)) := by decide
theorem tab4 : ∀ k : Nat, k < 31 → 1 ≤ k → ((bitF .and .i64 (atL usesL k) 4 = 0) ↔ ¬ (k = 2 ∨ (26 ≤ k ∧ k ≤ 28))) := by decide
theorem tab1 : ∀ k : Nat, k < 31 → 1 ≤ k → ((bitF .and .i64 (atL usesL k) 1 = 0) ↔ ¬ (k = 2 ∨ (26 ≤ k ∧ k ≤ 28))) := by decide
theorem tabP : ∀ k : Nat, k < 31 → 1 ≤ k → atL partsL k = partsI k := by decide
set_option maxHeartbeats 16000000 in
theorem nodeT (op n : Int) (s : ByteArray) (k : Nat) (C : Nat → Int) (N : Nat → Nat) (W Q : Nat → Nat → Int) (m : Nat) (G : Nat → Nat → D) (hk : k < 2 ^ 62) (hm : m < 2 ^ 62) (hs : s.size < 2 ^ 62) (hN : ∀ i, i < k → N i < 2 ^ 61) : VFun (P ()) 124 [tml op n s k C N W Q m G] (fun r => ∃ b : Bool, (b = true ↔ NodeQ op n s k m ∧ ∀ i, i < k → CanP (C i) (N i) (W i) (Q i)) ∧ r = .d (.bool b)) := by
  refine vfunL (Tf := fun {_} _ => fzT [1] (T ())) (fun {_} => tabOk.frz [1]) [] 400 Tryz.func124 rfl (fun {_} => by kernel_rfl) rfl (Nat.le_of_ble_eq_true rfl) @fun ⟨_, _, _, _, _, _, _, _, _, _, _, _, _, _, _, _, _, _, _, _, _, _, _, _, _, _, _, _, _, _, _, _, _, _, _, _, _, _, wp, wf⟩ R hR => ?_
  cbv
  try simp only [wp, (show ∀ n : Nat, _ = n from fun n => wf.2.2.2.2.2.2.2.2.2.2.2.2.2.1 (Int.ofNat n)), getL, takeL, dropL, TK.isAgg, reduceIte]
  replace hR := fun b H h => hR _ H (.d (.bool b)) (.d _) ⟨b, h, rfl⟩
  refine (of op).call ?_
  rintro _ ⟨w, u, p, b, rfl, hb, hu⟩
  rcases hb.dich with ⟨rfl, v⟩ | ⟨rfl, v⟩ <;> clear hb <;> (cbv; try simp only [wp, (show ∀ n : Nat, _ = n from fun n => wf.2.2.2.2.2.2.2.2.2.2.2.2.2.1 (Int.ofNat n)), (show _ = (0 : Nat) from wf.2.2.2.2.2.2.2.2.2.2.2.2.2.1 0), getL, takeL, dropL, TK.isAgg, reduceIte])
  · obtain ⟨_, e1, e2⟩ := hu rfl
    have v1 := v.1
    have v2 := v.2
    clear v hu
    have eo : ((op.toNat : Nat) : Int) = op := by omega
    have t8 := tab8 op.toNat (by omega) (by omega)
    have t16 := tab16 op.toNat (by omega) (by omega)
    have t32 := tab32 op.toNat (by omega) (by omega)
    have t64 := tab64 op.toNat (by omega) (by omega)
    have t2 := tab2 op.toNat (by omega) (by omega)
    have t4 := tab4 op.toNat (by omega) (by omega)
    have t1 := tab1 op.toNat (by omega) (by omega)
    have tp := tabP op.toNat (by omega) (by omega)
    rw [eo, ← e2] at tp
    rw [eo, ← e1] at t8 t16 t32 t64 t2 t4 t1
    have hp : p = partsI op := tp
    clear tp
    obtain ⟨p1, p2, p3⟩ := parts_lin op
    rw [← hp] at p1 p2 p3
    clear e1 e2 eo
    obtain ⟨m1, m2, m3, m4, m5⟩ := most_lin op
    obtain ⟨o1, o2⟩ := one_lin op
    have wb := fun y => wf.2.2.2.2.2.2.2.2.1 BinOp.and IntKind.i64 u y
    simp only [← wb] at t8 t16 t32 t64 t2 t4 t1
    clear wb
    (refine Later.mk ?_; cbv; try simp only [wp, (show ∀ n : Nat, _ = n from fun n => wf.2.2.2.2.2.2.2.2.2.2.2.2.2.1 (Int.ofNat n)), (show _ = (0 : Nat) from wf.2.2.2.2.2.2.2.2.2.2.2.2.2.1 0), getL, takeL, dropL, TK.isAgg, reduceIte])
    repeat' first | (with_reducible refine And.intro ?_ ?_) | intro c9 | (exfalso; clear hR hN; omega)
    all_goals as_aux_lemma =>
      (refine Later.mk ?_; cbv; try simp only [wp, (show ∀ n : Nat, _ = n from fun n => wf.2.2.2.2.2.2.2.2.2.2.2.2.2.1 (Int.ofNat n)), (show _ = (0 : Nat) from wf.2.2.2.2.2.2.2.2.2.2.2.2.2.1 0), getL, takeL, dropL, TK.isAgg, reduceIte])
      repeat' first | (with_reducible refine And.intro ?_ ?_) | intro c9 | (exfalso; clear hR hN; omega)
      all_goals as_aux_lemma =>
        repeat' first | (with_reducible refine And.intro ?_ ?_) | intro c9 | (exfalso; clear hR hN; omega) | (refine Later.mk ?_; cbv; try simp only [wp, (show ∀ n : Nat, _ = n from fun n => wf.2.2.2.2.2.2.2.2.2.2.2.2.2.1 (Int.ofNat n)), (show _ = (0 : Nat) from wf.2.2.2.2.2.2.2.2.2.2.2.2.2.1 0), getL, takeL, dropL, TK.isAgg, reduceIte])
        all_goals as_aux_lemma =>
          first
          | (refine hR false _ (iffF fun h => ?_)
             obtain ⟨⟨q1, q2, q3, q4, q5, q6, q7, q8, q9, q10⟩, _⟩ := h
             clear hR hN
             rw [← hp] at q10
             first
             | (((try simp only [wf, nc, nc', Int.toNat_natCast, bsz, ByteArray.size_append, List.length_cons, List.length_nil] at *); (try simp (disch := omega) only [w64, w32, wu8] at *))
                omega)
             | exact absurd (ba_nil (q8 (by omega))) (by assumption)
             | exact absurd (q6 (by omega)) (by assumption))
          | (refine (contUF k C N W Q hk hN).call ?_
             rintro _ ⟨b, hb, rfl⟩
             cases b <;> (cbv; try simp only [wp, (show ∀ n : Nat, _ = n from fun n => wf.2.2.2.2.2.2.2.2.2.2.2.2.2.1 (Int.ofNat n)), (show _ = (0 : Nat) from wf.2.2.2.2.2.2.2.2.2.2.2.2.2.1 0), getL, takeL, dropL, TK.isAgg, reduceIte])
             · have hq : NodeQ op n s k m := by
                 clear hR hN hb
                 ((try simp only [wf, nc, nc', Int.toNat_natCast, bsz, ByteArray.size_append, List.length_cons, List.length_nil] at *); (try simp (disch := omega) only [w64, w32, wu8] at *))
                 refine ⟨by omega, by omega, by omega, by omega, fun h => by omega, fun h => ?_, fun h => by omega, fun h => ?_, fun h => by omega, fun h => by rw [← hp]; omega⟩
                 · first
                   | assumption
                   | (exfalso; omega)
                 · first
                   | exact ba_size (by assumption)
                   | (exfalso; omega)
               exact hR true _ (iffT ⟨hq, hb.1 rfl⟩)
             · exact hR false _ (iffF fun h => by have := hb.2 h.2; cases this))
          | (refine (isName s hs).call ?_
             rintro _ ⟨b, hb, rfl⟩
             rcases hb.dich with ⟨rfl, v⟩ | ⟨rfl, v⟩ <;> clear hb <;> (cbv; try simp only [wp, (show ∀ n : Nat, _ = n from fun n => wf.2.2.2.2.2.2.2.2.2.2.2.2.2.1 (Int.ofNat n)), (show _ = (0 : Nat) from wf.2.2.2.2.2.2.2.2.2.2.2.2.2.1 0), getL, takeL, dropL, TK.isAgg, reduceIte])
             all_goals
               repeat' first | (with_reducible refine And.intro ?_ ?_) | intro c9 | (exfalso; clear hR hN; omega) | (refine Later.mk ?_; cbv; try simp only [wp, (show ∀ n : Nat, _ = n from fun n => wf.2.2.2.2.2.2.2.2.2.2.2.2.2.1 (Int.ofNat n)), (show _ = (0 : Nat) from wf.2.2.2.2.2.2.2.2.2.2.2.2.2.1 0), getL, takeL, dropL, TK.isAgg, reduceIte])
             all_goals first
               | (refine hR false _ (iffF fun h => ?_)
                  obtain ⟨⟨q1, q2, q3, q4, q5, q6, q7, q8, q9, q10⟩, _⟩ := h
                  clear hR hN
                  rw [← hp] at q10
                  first
                  | (((try simp only [wf, nc, nc', Int.toNat_natCast, bsz, ByteArray.size_append, List.length_cons, List.length_nil] at *); (try simp (disch := omega) only [w64, w32, wu8] at *))
                     omega)
                  | exact absurd (ba_nil (q8 (by omega))) (by assumption)
                  | exact absurd (q6 (by omega)) (by assumption))
               | (refine (contUF k C N W Q hk hN).call ?_
                  rintro _ ⟨b, hb, rfl⟩
                  cases b <;> (cbv; try simp only [wp, (show ∀ n : Nat, _ = n from fun n => wf.2.2.2.2.2.2.2.2.2.2.2.2.2.1 (Int.ofNat n)), (show _ = (0 : Nat) from wf.2.2.2.2.2.2.2.2.2.2.2.2.2.1 0), getL, takeL, dropL, TK.isAgg, reduceIte])
                  · have hq : NodeQ op n s k m := by
                      clear hR hN hb
                      ((try simp only [wf, nc, nc', Int.toNat_natCast, bsz, ByteArray.size_append, List.length_cons, List.length_nil] at *); (try simp (disch := omega) only [w64, w32, wu8] at *))
                      refine ⟨by omega, by omega, by omega, by omega, fun h => by omega, fun h => ?_, fun h => by omega, fun h => ?_, fun h => by omega, fun h => by rw [← hp]; omega⟩
                      · first
                        | assumption
                        | (exfalso; omega)
                      · first
                        | exact ba_size (by assumption)
                        | (exfalso; omega)
                    exact hR true _ (iffT ⟨hq, hb.1 rfl⟩)
                  · exact hR false _ (iffF fun h => by have := hb.2 h.2; cases this)))
  · (refine Later.mk ?_; cbv; try simp only [wp, (show ∀ n : Nat, _ = n from fun n => wf.2.2.2.2.2.2.2.2.2.2.2.2.2.1 (Int.ofNat n)), (show _ = (0 : Nat) from wf.2.2.2.2.2.2.2.2.2.2.2.2.2.1 0), getL, takeL, dropL, TK.isAgg, reduceIte])
    exact hR false _ (iffF fun h => v ⟨h.1.1, h.1.2.1⟩)
end Go.VM
