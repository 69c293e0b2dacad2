/- Part of the proof: LA5. -/
import Derived.Test.YtjfkhhenccochaaDoorGX10
import Derived.Test.YtjfkhhenccochaaDoorGX8
import Derived.Test.YtjfkhhenccochaaDoorGV6
namespace Go.VM
open Go.Proofs Go
set_option maxRecDepth 100000
set_option linter.unusedVariables false
set_option linter.unusedSimpArgs false
theorem CanR.open {c : Int} {f : Int → Option Int} {c' : Int} {n : Nat} {V P : Nat → Int} (h : CanR c f (.tup [lv c' n V P, .d (.int .i64 0)])) :
    asc (lst V P n) ∧ (∀ v, mx (lst V P n) v = f v) ∧ c' = cq c (lst V P n) ∧ c' ≤ 1000 ∧ mostL (lst V P n) ≤ 1000 ∧ n ≤ 8 := by
  obtain ⟨q, h1, h2, c1, n1, V1, P1, e1, he, h3, h4, h5⟩ := h
  simp only [lv, A.tup.injEq, List.cons.injEq, A.agg.injEq, A.d.injEq, D.int.injEq, D.sl.injEq, true_and, and_true] at he
  obtain ⟨⟨rfl, rfl, hf⟩, rfl⟩ := he
  have hl : lst V1 P1 n = lst V P n := lst_congr fun k _ => ⟨by have := congrFun (congrFun hf k) 0; simpa [lvF] using this.symm, by have := congrFun (congrFun hf k) 1; simpa [lvF] using this.symm⟩
  rw [hl] at h5
  cases e : canonL c q with
  | none => have := (h4 e).1; simp at this
  | some x =>
    obtain ⟨_, h6, h7⟩ := h5 x e
    rw [canon_fits] at e
    by_cases h8 : (if c ≤ mostL q then 0 else c) > 1000 ∨ mostL q > 1000 ∨ q.length > 8
    · rw [if_pos h8] at e
      cases e
    · rw [if_neg h8] at e
      obtain rfl := Option.some.inj e
      dsimp only at h6 h7
      subst h7
      rw [lst_length] at h8
      have h9 : c' = cq c (lst V P n) := h6
      rw [← h6] at h8
      refine ⟨h1, h2, h9, ?_, ?_, ?_⟩ <;> omega
theorem CanR.valid {c : Int} {f : Int → Option Int} {c' : Int} {n : Nat} {V P : Nat → Int} (h : CanR c f (.tup [lv c' n V P, .d (.int .i64 0)])) (h0 : 0 ≤ c) (hf : ∀ v p, f v = some p → 0 ≤ v ∧ v < 1200 ∧ 0 ≤ p) : ValidP c' n V P := by
  obtain ⟨h1, h2, h3, h4, h5, h6⟩ := h.open
  refine ⟨by rw [h3]; unfold cq; split <;> omega, h4, h6, fun i hi => ?_⟩
  have hm : (V i, P i) ∈ lst V P n := lst_mem.2 ⟨i, hi, rfl⟩
  have hd := asc_dist h1
  obtain ⟨y, e, hy⟩ := mx_mem hm
  dsimp only at e hy
  obtain ⟨j, hj, e2⟩ := lst_mem.1 (mx_in e)
  obtain ⟨e3, e4⟩ := Prod.mk.inj e2
  have hij : i = j := by
    rcases Nat.lt_trichotomy i j with h | h | h
    · have := hd i j h hj; omega
    · exact h
    · have := hd j i h hi; omega
  subst hij
  have h7 := hf _ _ ((h2 (V i)).symm.trans e)
  have h8 := most_in hm
  dsimp only at h8
  refine ⟨h7.1, h7.2.1, by omega, by omega, fun k hk => ?_⟩
  have := hd k i hk hi
  omega
theorem ValidP.mx {c : Int} {n : Nat} {V P : Nat → Int} (h : ValidP c n V P) {v p : Int} (e : mx (lst V P n) v = some p) : 0 ≤ v ∧ v < 1200 ∧ 0 ≤ p := by
  obtain ⟨i, hi, e⟩ := lst_mem.1 (mx_in e)
  obtain ⟨rfl, rfl⟩ := Prod.mk.inj e
  obtain ⟨p1, p2, p3, _⟩ := h.2.2.2 i hi
  exact ⟨p1, p2, p3⟩
theorem omax_or {x y : Option Int} {p : Int} (h : omax x y = some p) : x = some p ∨ y = some p := by
  match x, y, h with
  | none, some b, e => exact .inr e
  | some a, none, e => exact .inl e
  | some a, some b, e =>
    have e := Option.some.inj e
    by_cases e3 : b ≤ a
    · exact .inl (congrArg some (by omega))
    · exact .inr (congrArg some (by omega))
set_option maxHeartbeats 4000000 in
theorem lawLattice (c c' c'' : Int) (n n' n'' : Nat) (V P0 V' P' V'' P'' : Nat → Int) (hn : n < 2 ^ 63) (hn' : n' < 2 ^ 63) (hn'' : n'' < 2 ^ 63) : VFun (P ()) 8 [lv c n V P0, lv c' n' V' P', lv c'' n'' V'' P''] (fun r => r = .d (.bool true)) := by
  refine vfunO (Tf := fun {_} _ => fzT [3, 4, 5] (T ())) (fun {_} => tabOk.frz [3, 4, 5]) [] 400 Tryd.func8 rfl (fun {_} => by kernel_rfl) rfl (Nat.le_of_ble_eq_true rfl) @fun ⟨_, _, _, _, _, _, _, _, _, _, _, _, _, _, _, _, _, _, _, _, _, _, _, _, _, _, _, _, _, _, _, _, _, _, _, _, _, _, wp, wf⟩ R hR => ?_
  cbv
  try simp only [wp, (show ∀ n : Nat, _ = n from fun n => wf.2.2.2.2.2.2.2.2.2.2.2.2.2.1 (Int.ofNat n)), getL, takeL, dropL, TK.isAgg, reduceIte]
  replace hR := fun H => hR _ H _ (.d (.bool true)) rfl
  repeat' first | trivial | with_reducible refine And.intro ?_ ?_ | intro c9
  refine (RValid c n V P0 hn).call ?_
  rintro _ ⟨b, hb, rfl⟩
  rcases hb.dich with ⟨rfl, v1⟩ | ⟨rfl, v1⟩ <;> clear hb <;> (cbv; try simp only [wp, (show ∀ n : Nat, _ = n from fun n => wf.2.2.2.2.2.2.2.2.2.2.2.2.2.1 (Int.ofNat n)), (show _ = (0 : Nat) from wf.2.2.2.2.2.2.2.2.2.2.2.2.2.1 0), getL, takeL, dropL, TK.isAgg, reduceIte]) <;> repeat' first | trivial | with_reducible refine And.intro ?_ ?_ | intro c9
  · refine (RValid c' n' V' P' hn').call ?_
    rintro _ ⟨b, hb, rfl⟩
    rcases hb.dich with ⟨rfl, v2⟩ | ⟨rfl, v2⟩ <;> clear hb <;> (cbv; try simp only [wp, (show ∀ n : Nat, _ = n from fun n => wf.2.2.2.2.2.2.2.2.2.2.2.2.2.1 (Int.ofNat n)), (show _ = (0 : Nat) from wf.2.2.2.2.2.2.2.2.2.2.2.2.2.1 0), getL, takeL, dropL, TK.isAgg, reduceIte]) <;> repeat' first | trivial | with_reducible refine And.intro ?_ ?_ | intro c9
    · refine (RValid c'' n'' V'' P'' hn'').call ?_
      rintro _ ⟨b, hb, rfl⟩
      rcases hb.dich with ⟨rfl, v3⟩ | ⟨rfl, v3⟩ <;> clear hb <;> (cbv; try simp only [wp, (show ∀ n : Nat, _ = n from fun n => wf.2.2.2.2.2.2.2.2.2.2.2.2.2.1 (Int.ofNat n)), (show _ = (0 : Nat) from wf.2.2.2.2.2.2.2.2.2.2.2.2.2.1 0), getL, takeL, dropL, TK.isAgg, reduceIte]) <;> repeat' first | trivial | with_reducible refine And.intro ?_ ?_ | intro c9
      · (refine Later.mk ?_; cbv; try simp only [wp, (show ∀ n : Nat, _ = n from fun n => wf.2.2.2.2.2.2.2.2.2.2.2.2.2.1 (Int.ofNat n)), (show _ = (0 : Nat) from wf.2.2.2.2.2.2.2.2.2.2.2.2.2.1 0), getL, takeL, dropL, TK.isAgg, reduceIte])
        have t1 : LeqQ c (lst V P0 n) c' (lst V' P' n') → LeqQ c' (lst V' P' n') c'' (lst V'' P'' n'') → LeqQ c (lst V P0 n) c'' (lst V'' P'' n'') := fun h h' => h.trans h'
        have hmax : ∀ c1 n1 V1 P1, CanR (max c c') (fun v => omax (mx (lst V P0 n) v) (mx (lst V' P' n') v)) (.tup [lv c1 n1 V1 P1, .d (.int .i64 0)]) → n1 < 2 ^ 62 ∧ ValidP c1 n1 V1 P1 ∧ LeqP c n V P0 c1 n1 V1 P1 ∧ LeqP c' n' V' P' c1 n1 V1 P1 ∧ (LeqP c n V P0 c'' n'' V'' P'' → LeqP c' n' V' P' c'' n'' V'' P'' → LeqP c1 n1 V1 P1 c'' n'' V'' P'') := fun c1 n1 V1 P1 h => by
          have ⟨h1, h2, h3, h4, h5, h6⟩ := h.open
          refine ⟨by omega, h.valid (by have := v1.1; omega) fun v p e => ?_, ?_, ?_, fun l1 l2 => ?_⟩
          · rcases omax_or e with e | e
            · exact v1.mx e
            · exact v2.mx e
          · rw [LeqP_Q, h3]; exact leq_max h2 (by omega)
          · rw [LeqP_Q, h3]; exact leq_max (fun v => by rw [h2, omax_comm]) (by omega)
          · rw [LeqP_Q] at l1 l2 ⊢
            rw [h3]
            exact leq_lub h2 v3.1 l1 l2
        have hsuc : ∀ c1 n1 V1 P1, CanR (c + 1) (mx (lst V (fun i => P0 i + 1) n)) (.tup [lv c1 n1 V1 P1, .d (.int .i64 0)]) → n1 < 2 ^ 62 ∧ ValidP c1 n1 V1 P1 ∧ LeqP c n V P0 c1 n1 V1 P1 ∧ ¬ LeqP c1 n1 V1 P1 c n V P0 := fun c1 n1 V1 P1 h => by
          have ⟨h1, h2, h3, h4, h5, h6⟩ := h.open
          have h7 : ∀ v, mx (lst V1 P1 n1) v = (mx (lst V P0 n) v).map (· + 1) := fun v => by rw [h2, lst_add_map, mx_map_add]
          refine ⟨by omega, h.valid (by have := v1.1; omega) fun v p e => ?_, ?_, ?_⟩
          · rw [lst_add_map, mx_map_add] at e
            obtain ⟨w, e2, rfl⟩ := Option.map_eq_some_iff.1 e
            have := v1.mx e2
            omega
          · rw [LeqP_Q, h3]; exact leq_suc h7
          · rw [LeqP_Q, h3]; exact suc_not v1.1 h7
        have h8 := v1.2.2.1
        have h8' := v2.2.2.1
        have h8'' := v3.2.2.1
        repeat' first | trivial | with_reducible refine And.intro ?_ ?_ | intro c9
        refine (Leq c c n n V P0 V P0 (by omega) (by omega)).call ?_
        rintro _ ⟨b, hb, rfl⟩
        obtain rfl : b = true := hb.2 (⟨v1, v1, LeqP_Q.2 (leqQ_refl _ _)⟩)
        clear hb
        (cbv; try simp only [wp, (show ∀ n : Nat, _ = n from fun n => wf.2.2.2.2.2.2.2.2.2.2.2.2.2.1 (Int.ofNat n)), (show _ = (0 : Nat) from wf.2.2.2.2.2.2.2.2.2.2.2.2.2.1 0), getL, takeL, dropL, TK.isAgg, reduceIte])
        (try (refine Later.mk ?_; cbv; try simp only [wp, (show ∀ n : Nat, _ = n from fun n => wf.2.2.2.2.2.2.2.2.2.2.2.2.2.1 (Int.ofNat n)), (show _ = (0 : Nat) from wf.2.2.2.2.2.2.2.2.2.2.2.2.2.1 0), getL, takeL, dropL, TK.isAgg, reduceIte]))
        repeat' first | trivial | with_reducible refine And.intro ?_ ?_ | intro c9
        refine (Leq c c' n n' V P0 V' P' (by omega) (by omega)).call ?_
        rintro _ ⟨b, hb, rfl⟩
        rcases hb.dich with ⟨rfl, -, -, w1⟩ | ⟨rfl, w1⟩ <;> clear hb <;> (cbv; try simp only [wp, (show ∀ n : Nat, _ = n from fun n => wf.2.2.2.2.2.2.2.2.2.2.2.2.2.1 (Int.ofNat n)), (show _ = (0 : Nat) from wf.2.2.2.2.2.2.2.2.2.2.2.2.2.1 0), getL, takeL, dropL, TK.isAgg, reduceIte])
        · (try (refine Later.mk ?_; cbv; try simp only [wp, (show ∀ n : Nat, _ = n from fun n => wf.2.2.2.2.2.2.2.2.2.2.2.2.2.1 (Int.ofNat n)), (show _ = (0 : Nat) from wf.2.2.2.2.2.2.2.2.2.2.2.2.2.1 0), getL, takeL, dropL, TK.isAgg, reduceIte]))
          repeat' first | trivial | with_reducible refine And.intro ?_ ?_ | intro c9
          refine (Leq c' c'' n' n'' V' P' V'' P'' (by omega) (by omega)).call ?_
          rintro _ ⟨b, hb, rfl⟩
          rcases hb.dich with ⟨rfl, -, -, w2⟩ | ⟨rfl, w2⟩ <;> clear hb <;> (cbv; try simp only [wp, (show ∀ n : Nat, _ = n from fun n => wf.2.2.2.2.2.2.2.2.2.2.2.2.2.1 (Int.ofNat n)), (show _ = (0 : Nat) from wf.2.2.2.2.2.2.2.2.2.2.2.2.2.1 0), getL, takeL, dropL, TK.isAgg, reduceIte])
          · (try (refine Later.mk ?_; cbv; try simp only [wp, (show ∀ n : Nat, _ = n from fun n => wf.2.2.2.2.2.2.2.2.2.2.2.2.2.1 (Int.ofNat n)), (show _ = (0 : Nat) from wf.2.2.2.2.2.2.2.2.2.2.2.2.2.1 0), getL, takeL, dropL, TK.isAgg, reduceIte]))
            repeat' first | trivial | with_reducible refine And.intro ?_ ?_ | intro c9
            refine (Leq c c'' n n'' V P0 V'' P'' (by omega) (by omega)).call ?_
            rintro _ ⟨b, hb, rfl⟩
            obtain rfl : b = true := hb.2 (⟨v1, v3, LeqP_Q.2 (t1 (LeqP_Q.1 w1) (LeqP_Q.1 w2))⟩)
            clear hb
            (cbv; try simp only [wp, (show ∀ n : Nat, _ = n from fun n => wf.2.2.2.2.2.2.2.2.2.2.2.2.2.1 (Int.ofNat n)), (show _ = (0 : Nat) from wf.2.2.2.2.2.2.2.2.2.2.2.2.2.1 0), getL, takeL, dropL, TK.isAgg, reduceIte])
            (try (refine Later.mk ?_; cbv; try simp only [wp, (show ∀ n : Nat, _ = n from fun n => wf.2.2.2.2.2.2.2.2.2.2.2.2.2.1 (Int.ofNat n)), (show _ = (0 : Nat) from wf.2.2.2.2.2.2.2.2.2.2.2.2.2.1 0), getL, takeL, dropL, TK.isAgg, reduceIte]))
            repeat' first | trivial | with_reducible refine And.intro ?_ ?_ | intro c9
            refine (Max c c' n n' V P0 V' P' hn hn').call @fun r1 h1 => ?_
            rcases h1 with ⟨h1, _⟩ | ⟨_, h1⟩
            · exact absurd ⟨v1, v2⟩ h1
            have h1b := h1
            obtain ⟨q, _, _, c1, n1, V1, P1, e1, rfl, _⟩ := h1b
            by_cases he : e1 = 0
            · subst he
              obtain ⟨k1, k2, k3, k4, k5⟩ := hmax _ _ _ _ h1
              clear h1
              (cbv; try simp only [wp, (show ∀ n : Nat, _ = n from fun n => wf.2.2.2.2.2.2.2.2.2.2.2.2.2.1 (Int.ofNat n)), (show _ = (0 : Nat) from wf.2.2.2.2.2.2.2.2.2.2.2.2.2.1 0), getL, takeL, dropL, TK.isAgg, reduceIte])
              repeat' first | trivial | with_reducible refine And.intro ?_ ?_ | intro c9
              (try (refine Later.mk ?_; cbv; try simp only [wp, (show ∀ n : Nat, _ = n from fun n => wf.2.2.2.2.2.2.2.2.2.2.2.2.2.1 (Int.ofNat n)), (show _ = (0 : Nat) from wf.2.2.2.2.2.2.2.2.2.2.2.2.2.1 0), getL, takeL, dropL, TK.isAgg, reduceIte]))
              repeat' first | trivial | with_reducible refine And.intro ?_ ?_ | intro c9
              refine (Leq c c1 n n1 V P0 V1 P1 (by omega) (by omega)).call ?_
              rintro _ ⟨b, hb, rfl⟩
              obtain rfl : b = true := hb.2 (⟨v1, k2, k3⟩)
              clear hb
              (cbv; try simp only [wp, (show ∀ n : Nat, _ = n from fun n => wf.2.2.2.2.2.2.2.2.2.2.2.2.2.1 (Int.ofNat n)), (show _ = (0 : Nat) from wf.2.2.2.2.2.2.2.2.2.2.2.2.2.1 0), getL, takeL, dropL, TK.isAgg, reduceIte])
              (try (refine Later.mk ?_; cbv; try simp only [wp, (show ∀ n : Nat, _ = n from fun n => wf.2.2.2.2.2.2.2.2.2.2.2.2.2.1 (Int.ofNat n)), (show _ = (0 : Nat) from wf.2.2.2.2.2.2.2.2.2.2.2.2.2.1 0), getL, takeL, dropL, TK.isAgg, reduceIte]))
              repeat' first | trivial | with_reducible refine And.intro ?_ ?_ | intro c9
              refine (Leq c' c1 n' n1 V' P' V1 P1 (by omega) (by omega)).call ?_
              rintro _ ⟨b, hb, rfl⟩
              obtain rfl : b = true := hb.2 (⟨v2, k2, k4⟩)
              clear hb
              (cbv; try simp only [wp, (show ∀ n : Nat, _ = n from fun n => wf.2.2.2.2.2.2.2.2.2.2.2.2.2.1 (Int.ofNat n)), (show _ = (0 : Nat) from wf.2.2.2.2.2.2.2.2.2.2.2.2.2.1 0), getL, takeL, dropL, TK.isAgg, reduceIte])
              (try (refine Later.mk ?_; cbv; try simp only [wp, (show ∀ n : Nat, _ = n from fun n => wf.2.2.2.2.2.2.2.2.2.2.2.2.2.1 (Int.ofNat n)), (show _ = (0 : Nat) from wf.2.2.2.2.2.2.2.2.2.2.2.2.2.1 0), getL, takeL, dropL, TK.isAgg, reduceIte]))
              repeat' first | trivial | with_reducible refine And.intro ?_ ?_ | intro c9
              refine (Leq c c'' n n'' V P0 V'' P'' (by omega) (by omega)).call ?_
              rintro _ ⟨b, hb, rfl⟩
              rcases hb.dich with ⟨rfl, -, -, w3⟩ | ⟨rfl, w3⟩ <;> clear hb <;> (cbv; try simp only [wp, (show ∀ n : Nat, _ = n from fun n => wf.2.2.2.2.2.2.2.2.2.2.2.2.2.1 (Int.ofNat n)), (show _ = (0 : Nat) from wf.2.2.2.2.2.2.2.2.2.2.2.2.2.1 0), getL, takeL, dropL, TK.isAgg, reduceIte])
              · (try (refine Later.mk ?_; cbv; try simp only [wp, (show ∀ n : Nat, _ = n from fun n => wf.2.2.2.2.2.2.2.2.2.2.2.2.2.1 (Int.ofNat n)), (show _ = (0 : Nat) from wf.2.2.2.2.2.2.2.2.2.2.2.2.2.1 0), getL, takeL, dropL, TK.isAgg, reduceIte]))
                repeat' first | trivial | with_reducible refine And.intro ?_ ?_ | intro c9
                refine (Leq c' c'' n' n'' V' P' V'' P'' (by omega) (by omega)).call ?_
                rintro _ ⟨b, hb, rfl⟩
                rcases hb.dich with ⟨rfl, -, -, w4⟩ | ⟨rfl, w4⟩ <;> clear hb <;> (cbv; try simp only [wp, (show ∀ n : Nat, _ = n from fun n => wf.2.2.2.2.2.2.2.2.2.2.2.2.2.1 (Int.ofNat n)), (show _ = (0 : Nat) from wf.2.2.2.2.2.2.2.2.2.2.2.2.2.1 0), getL, takeL, dropL, TK.isAgg, reduceIte])
                · (try (refine Later.mk ?_; cbv; try simp only [wp, (show ∀ n : Nat, _ = n from fun n => wf.2.2.2.2.2.2.2.2.2.2.2.2.2.1 (Int.ofNat n)), (show _ = (0 : Nat) from wf.2.2.2.2.2.2.2.2.2.2.2.2.2.1 0), getL, takeL, dropL, TK.isAgg, reduceIte]))
                  repeat' first | trivial | with_reducible refine And.intro ?_ ?_ | intro c9
                  refine (Leq c1 c'' n1 n'' V1 P1 V'' P'' (by omega) (by omega)).call ?_
                  rintro _ ⟨b, hb, rfl⟩
                  obtain rfl : b = true := hb.2 (⟨k2, v3, k5 w3 w4⟩)
                  clear hb
                  (cbv; try simp only [wp, (show ∀ n : Nat, _ = n from fun n => wf.2.2.2.2.2.2.2.2.2.2.2.2.2.1 (Int.ofNat n)), (show _ = (0 : Nat) from wf.2.2.2.2.2.2.2.2.2.2.2.2.2.1 0), getL, takeL, dropL, TK.isAgg, reduceIte])
                  (try (refine Later.mk ?_; cbv; try simp only [wp, (show ∀ n : Nat, _ = n from fun n => wf.2.2.2.2.2.2.2.2.2.2.2.2.2.1 (Int.ofNat n)), (show _ = (0 : Nat) from wf.2.2.2.2.2.2.2.2.2.2.2.2.2.1 0), getL, takeL, dropL, TK.isAgg, reduceIte]))
                  repeat' first | trivial | with_reducible refine And.intro ?_ ?_ | intro c9
                  refine (Suc c n V P0 hn).call @fun r1 h1 => ?_
                  rcases h1 with ⟨h1, _⟩ | ⟨_, h1⟩
                  · exact absurd v1 h1
                  have h1b := h1
                  obtain ⟨q, _, _, c2, n2, V2, P2, e2, rfl, _⟩ := h1b
                  by_cases he : e2 = 0
                  · subst he
                    obtain ⟨m1, m2, m3, m4⟩ := hsuc _ _ _ _ h1
                    clear h1
                    (cbv; try simp only [wp, (show ∀ n : Nat, _ = n from fun n => wf.2.2.2.2.2.2.2.2.2.2.2.2.2.1 (Int.ofNat n)), (show _ = (0 : Nat) from wf.2.2.2.2.2.2.2.2.2.2.2.2.2.1 0), getL, takeL, dropL, TK.isAgg, reduceIte])
                    repeat' first | trivial | with_reducible refine And.intro ?_ ?_ | intro c9
                    (try (refine Later.mk ?_; cbv; try simp only [wp, (show ∀ n : Nat, _ = n from fun n => wf.2.2.2.2.2.2.2.2.2.2.2.2.2.1 (Int.ofNat n)), (show _ = (0 : Nat) from wf.2.2.2.2.2.2.2.2.2.2.2.2.2.1 0), getL, takeL, dropL, TK.isAgg, reduceIte]))
                    repeat' first | trivial | with_reducible refine And.intro ?_ ?_ | intro c9
                    refine (Leq c c2 n n2 V P0 V2 P2 (by omega) (by omega)).call ?_
                    rintro _ ⟨b, hb, rfl⟩
                    obtain rfl : b = true := hb.2 (⟨v1, m2, m3⟩)
                    clear hb
                    (cbv; try simp only [wp, (show ∀ n : Nat, _ = n from fun n => wf.2.2.2.2.2.2.2.2.2.2.2.2.2.1 (Int.ofNat n)), (show _ = (0 : Nat) from wf.2.2.2.2.2.2.2.2.2.2.2.2.2.1 0), getL, takeL, dropL, TK.isAgg, reduceIte])
                    (try (refine Later.mk ?_; cbv; try simp only [wp, (show ∀ n : Nat, _ = n from fun n => wf.2.2.2.2.2.2.2.2.2.2.2.2.2.1 (Int.ofNat n)), (show _ = (0 : Nat) from wf.2.2.2.2.2.2.2.2.2.2.2.2.2.1 0), getL, takeL, dropL, TK.isAgg, reduceIte]))
                    repeat' first | trivial | with_reducible refine And.intro ?_ ?_ | intro c9
                    refine (Leq c2 c n2 n V2 P2 V P0 (by omega) (by omega)).call ?_
                    rintro _ ⟨b, hb, rfl⟩
                    obtain rfl : b = false := (by cases b; rfl; exact absurd (hb.1 rfl).2.2 (m4))
                    clear hb
                    (cbv; try simp only [wp, (show ∀ n : Nat, _ = n from fun n => wf.2.2.2.2.2.2.2.2.2.2.2.2.2.1 (Int.ofNat n)), (show _ = (0 : Nat) from wf.2.2.2.2.2.2.2.2.2.2.2.2.2.1 0), getL, takeL, dropL, TK.isAgg, reduceIte])
                    (try (refine Later.mk ?_; cbv; try simp only [wp, (show ∀ n : Nat, _ = n from fun n => wf.2.2.2.2.2.2.2.2.2.2.2.2.2.1 (Int.ofNat n)), (show _ = (0 : Nat) from wf.2.2.2.2.2.2.2.2.2.2.2.2.2.1 0), getL, takeL, dropL, TK.isAgg, reduceIte]))
                    repeat' first | trivial | with_reducible refine And.intro ?_ ?_ | intro c9
                    refine awake.call ?_
                    rintro _ rfl
                    (cbv; try simp only [wp, (show ∀ n : Nat, _ = n from fun n => wf.2.2.2.2.2.2.2.2.2.2.2.2.2.1 (Int.ofNat n)), (show _ = (0 : Nat) from wf.2.2.2.2.2.2.2.2.2.2.2.2.2.1 0), getL, takeL, dropL, TK.isAgg, reduceIte])
                    (try (refine Later.mk ?_; cbv; try simp only [wp, (show ∀ n : Nat, _ = n from fun n => wf.2.2.2.2.2.2.2.2.2.2.2.2.2.1 (Int.ofNat n)), (show _ = (0 : Nat) from wf.2.2.2.2.2.2.2.2.2.2.2.2.2.1 0), getL, takeL, dropL, TK.isAgg, reduceIte]))
                    repeat' first | trivial | with_reducible refine And.intro ?_ ?_ | intro c9
                    all_goals exact hR _
                  · clear h1
                    (cbv; try simp only [wp, (show ∀ n : Nat, _ = n from fun n => wf.2.2.2.2.2.2.2.2.2.2.2.2.2.1 (Int.ofNat n)), (show _ = (0 : Nat) from wf.2.2.2.2.2.2.2.2.2.2.2.2.2.1 0), getL, takeL, dropL, TK.isAgg, reduceIte])
                    (try (refine Later.mk ?_; cbv; try simp only [wp, (show ∀ n : Nat, _ = n from fun n => wf.2.2.2.2.2.2.2.2.2.2.2.2.2.1 (Int.ofNat n)), (show _ = (0 : Nat) from wf.2.2.2.2.2.2.2.2.2.2.2.2.2.1 0), getL, takeL, dropL, TK.isAgg, reduceIte]))
                    repeat' first | with_reducible refine And.intro ?_ ?_ | (intro c9; first | exact absurd (by (try simp only [wf, nc, nc', Int.toNat_natCast, bsz, ByteArray.size_append, List.length_cons, List.length_nil] at *); (try simp (disch := omega) only [w64, w32, wu8] at *); first | done | omega) he | skip)
                    all_goals (try (refine Later.mk ?_; cbv; try simp only [wp, (show ∀ n : Nat, _ = n from fun n => wf.2.2.2.2.2.2.2.2.2.2.2.2.2.1 (Int.ofNat n)), (show _ = (0 : Nat) from wf.2.2.2.2.2.2.2.2.2.2.2.2.2.1 0), getL, takeL, dropL, TK.isAgg, reduceIte]))
                    refine awake.call ?_
                    rintro _ rfl
                    (cbv; try simp only [wp, (show ∀ n : Nat, _ = n from fun n => wf.2.2.2.2.2.2.2.2.2.2.2.2.2.1 (Int.ofNat n)), (show _ = (0 : Nat) from wf.2.2.2.2.2.2.2.2.2.2.2.2.2.1 0), getL, takeL, dropL, TK.isAgg, reduceIte])
                    (try (refine Later.mk ?_; cbv; try simp only [wp, (show ∀ n : Nat, _ = n from fun n => wf.2.2.2.2.2.2.2.2.2.2.2.2.2.1 (Int.ofNat n)), (show _ = (0 : Nat) from wf.2.2.2.2.2.2.2.2.2.2.2.2.2.1 0), getL, takeL, dropL, TK.isAgg, reduceIte]))
                    repeat' first | trivial | with_reducible refine And.intro ?_ ?_ | intro c9
                    all_goals exact hR _

                · (try (refine Later.mk ?_; cbv; try simp only [wp, (show ∀ n : Nat, _ = n from fun n => wf.2.2.2.2.2.2.2.2.2.2.2.2.2.1 (Int.ofNat n)), (show _ = (0 : Nat) from wf.2.2.2.2.2.2.2.2.2.2.2.2.2.1 0), getL, takeL, dropL, TK.isAgg, reduceIte]))
                  repeat' first | trivial | with_reducible refine And.intro ?_ ?_ | intro c9
                  refine (Suc c n V P0 hn).call @fun r1 h1 => ?_
                  rcases h1 with ⟨h1, _⟩ | ⟨_, h1⟩
                  · exact absurd v1 h1
                  have h1b := h1
                  obtain ⟨q, _, _, c2, n2, V2, P2, e2, rfl, _⟩ := h1b
                  by_cases he : e2 = 0
                  · subst he
                    obtain ⟨m1, m2, m3, m4⟩ := hsuc _ _ _ _ h1
                    clear h1
                    (cbv; try simp only [wp, (show ∀ n : Nat, _ = n from fun n => wf.2.2.2.2.2.2.2.2.2.2.2.2.2.1 (Int.ofNat n)), (show _ = (0 : Nat) from wf.2.2.2.2.2.2.2.2.2.2.2.2.2.1 0), getL, takeL, dropL, TK.isAgg, reduceIte])
                    repeat' first | trivial | with_reducible refine And.intro ?_ ?_ | intro c9
                    (try (refine Later.mk ?_; cbv; try simp only [wp, (show ∀ n : Nat, _ = n from fun n => wf.2.2.2.2.2.2.2.2.2.2.2.2.2.1 (Int.ofNat n)), (show _ = (0 : Nat) from wf.2.2.2.2.2.2.2.2.2.2.2.2.2.1 0), getL, takeL, dropL, TK.isAgg, reduceIte]))
                    repeat' first | trivial | with_reducible refine And.intro ?_ ?_ | intro c9
                    refine (Leq c c2 n n2 V P0 V2 P2 (by omega) (by omega)).call ?_
                    rintro _ ⟨b, hb, rfl⟩
                    obtain rfl : b = true := hb.2 (⟨v1, m2, m3⟩)
                    clear hb
                    (cbv; try simp only [wp, (show ∀ n : Nat, _ = n from fun n => wf.2.2.2.2.2.2.2.2.2.2.2.2.2.1 (Int.ofNat n)), (show _ = (0 : Nat) from wf.2.2.2.2.2.2.2.2.2.2.2.2.2.1 0), getL, takeL, dropL, TK.isAgg, reduceIte])
                    (try (refine Later.mk ?_; cbv; try simp only [wp, (show ∀ n : Nat, _ = n from fun n => wf.2.2.2.2.2.2.2.2.2.2.2.2.2.1 (Int.ofNat n)), (show _ = (0 : Nat) from wf.2.2.2.2.2.2.2.2.2.2.2.2.2.1 0), getL, takeL, dropL, TK.isAgg, reduceIte]))
                    repeat' first | trivial | with_reducible refine And.intro ?_ ?_ | intro c9
                    refine (Leq c2 c n2 n V2 P2 V P0 (by omega) (by omega)).call ?_
                    rintro _ ⟨b, hb, rfl⟩
                    obtain rfl : b = false := (by cases b; rfl; exact absurd (hb.1 rfl).2.2 (m4))
                    clear hb
                    (cbv; try simp only [wp, (show ∀ n : Nat, _ = n from fun n => wf.2.2.2.2.2.2.2.2.2.2.2.2.2.1 (Int.ofNat n)), (show _ = (0 : Nat) from wf.2.2.2.2.2.2.2.2.2.2.2.2.2.1 0), getL, takeL, dropL, TK.isAgg, reduceIte])
                    (try (refine Later.mk ?_; cbv; try simp only [wp, (show ∀ n : Nat, _ = n from fun n => wf.2.2.2.2.2.2.2.2.2.2.2.2.2.1 (Int.ofNat n)), (show _ = (0 : Nat) from wf.2.2.2.2.2.2.2.2.2.2.2.2.2.1 0), getL, takeL, dropL, TK.isAgg, reduceIte]))
                    repeat' first | trivial | with_reducible refine And.intro ?_ ?_ | intro c9
                    refine awake.call ?_
                    rintro _ rfl
                    (cbv; try simp only [wp, (show ∀ n : Nat, _ = n from fun n => wf.2.2.2.2.2.2.2.2.2.2.2.2.2.1 (Int.ofNat n)), (show _ = (0 : Nat) from wf.2.2.2.2.2.2.2.2.2.2.2.2.2.1 0), getL, takeL, dropL, TK.isAgg, reduceIte])
                    (try (refine Later.mk ?_; cbv; try simp only [wp, (show ∀ n : Nat, _ = n from fun n => wf.2.2.2.2.2.2.2.2.2.2.2.2.2.1 (Int.ofNat n)), (show _ = (0 : Nat) from wf.2.2.2.2.2.2.2.2.2.2.2.2.2.1 0), getL, takeL, dropL, TK.isAgg, reduceIte]))
                    repeat' first | trivial | with_reducible refine And.intro ?_ ?_ | intro c9
                    all_goals exact hR _
                  · clear h1
                    (cbv; try simp only [wp, (show ∀ n : Nat, _ = n from fun n => wf.2.2.2.2.2.2.2.2.2.2.2.2.2.1 (Int.ofNat n)), (show _ = (0 : Nat) from wf.2.2.2.2.2.2.2.2.2.2.2.2.2.1 0), getL, takeL, dropL, TK.isAgg, reduceIte])
                    (try (refine Later.mk ?_; cbv; try simp only [wp, (show ∀ n : Nat, _ = n from fun n => wf.2.2.2.2.2.2.2.2.2.2.2.2.2.1 (Int.ofNat n)), (show _ = (0 : Nat) from wf.2.2.2.2.2.2.2.2.2.2.2.2.2.1 0), getL, takeL, dropL, TK.isAgg, reduceIte]))
                    repeat' first | with_reducible refine And.intro ?_ ?_ | (intro c9; first | exact absurd (by (try simp only [wf, nc, nc', Int.toNat_natCast, bsz, ByteArray.size_append, List.length_cons, List.length_nil] at *); (try simp (disch := omega) only [w64, w32, wu8] at *); first | done | omega) he | skip)
                    all_goals (try (refine Later.mk ?_; cbv; try simp only [wp, (show ∀ n : Nat, _ = n from fun n => wf.2.2.2.2.2.2.2.2.2.2.2.2.2.1 (Int.ofNat n)), (show _ = (0 : Nat) from wf.2.2.2.2.2.2.2.2.2.2.2.2.2.1 0), getL, takeL, dropL, TK.isAgg, reduceIte]))
                    refine awake.call ?_
                    rintro _ rfl
                    (cbv; try simp only [wp, (show ∀ n : Nat, _ = n from fun n => wf.2.2.2.2.2.2.2.2.2.2.2.2.2.1 (Int.ofNat n)), (show _ = (0 : Nat) from wf.2.2.2.2.2.2.2.2.2.2.2.2.2.1 0), getL, takeL, dropL, TK.isAgg, reduceIte])
                    (try (refine Later.mk ?_; cbv; try simp only [wp, (show ∀ n : Nat, _ = n from fun n => wf.2.2.2.2.2.2.2.2.2.2.2.2.2.1 (Int.ofNat n)), (show _ = (0 : Nat) from wf.2.2.2.2.2.2.2.2.2.2.2.2.2.1 0), getL, takeL, dropL, TK.isAgg, reduceIte]))
                    repeat' first | trivial | with_reducible refine And.intro ?_ ?_ | intro c9
                    all_goals exact hR _


              · (try (refine Later.mk ?_; cbv; try simp only [wp, (show ∀ n : Nat, _ = n from fun n => wf.2.2.2.2.2.2.2.2.2.2.2.2.2.1 (Int.ofNat n)), (show _ = (0 : Nat) from wf.2.2.2.2.2.2.2.2.2.2.2.2.2.1 0), getL, takeL, dropL, TK.isAgg, reduceIte]))
                repeat' first | trivial | with_reducible refine And.intro ?_ ?_ | intro c9
                refine (Suc c n V P0 hn).call @fun r1 h1 => ?_
                rcases h1 with ⟨h1, _⟩ | ⟨_, h1⟩
                · exact absurd v1 h1
                have h1b := h1
                obtain ⟨q, _, _, c2, n2, V2, P2, e2, rfl, _⟩ := h1b
                by_cases he : e2 = 0
                · subst he
                  obtain ⟨m1, m2, m3, m4⟩ := hsuc _ _ _ _ h1
                  clear h1
                  (cbv; try simp only [wp, (show ∀ n : Nat, _ = n from fun n => wf.2.2.2.2.2.2.2.2.2.2.2.2.2.1 (Int.ofNat n)), (show _ = (0 : Nat) from wf.2.2.2.2.2.2.2.2.2.2.2.2.2.1 0), getL, takeL, dropL, TK.isAgg, reduceIte])
                  repeat' first | trivial | with_reducible refine And.intro ?_ ?_ | intro c9
                  (try (refine Later.mk ?_; cbv; try simp only [wp, (show ∀ n : Nat, _ = n from fun n => wf.2.2.2.2.2.2.2.2.2.2.2.2.2.1 (Int.ofNat n)), (show _ = (0 : Nat) from wf.2.2.2.2.2.2.2.2.2.2.2.2.2.1 0), getL, takeL, dropL, TK.isAgg, reduceIte]))
                  repeat' first | trivial | with_reducible refine And.intro ?_ ?_ | intro c9
                  refine (Leq c c2 n n2 V P0 V2 P2 (by omega) (by omega)).call ?_
                  rintro _ ⟨b, hb, rfl⟩
                  obtain rfl : b = true := hb.2 (⟨v1, m2, m3⟩)
                  clear hb
                  (cbv; try simp only [wp, (show ∀ n : Nat, _ = n from fun n => wf.2.2.2.2.2.2.2.2.2.2.2.2.2.1 (Int.ofNat n)), (show _ = (0 : Nat) from wf.2.2.2.2.2.2.2.2.2.2.2.2.2.1 0), getL, takeL, dropL, TK.isAgg, reduceIte])
                  (try (refine Later.mk ?_; cbv; try simp only [wp, (show ∀ n : Nat, _ = n from fun n => wf.2.2.2.2.2.2.2.2.2.2.2.2.2.1 (Int.ofNat n)), (show _ = (0 : Nat) from wf.2.2.2.2.2.2.2.2.2.2.2.2.2.1 0), getL, takeL, dropL, TK.isAgg, reduceIte]))
                  repeat' first | trivial | with_reducible refine And.intro ?_ ?_ | intro c9
                  refine (Leq c2 c n2 n V2 P2 V P0 (by omega) (by omega)).call ?_
                  rintro _ ⟨b, hb, rfl⟩
                  obtain rfl : b = false := (by cases b; rfl; exact absurd (hb.1 rfl).2.2 (m4))
                  clear hb
                  (cbv; try simp only [wp, (show ∀ n : Nat, _ = n from fun n => wf.2.2.2.2.2.2.2.2.2.2.2.2.2.1 (Int.ofNat n)), (show _ = (0 : Nat) from wf.2.2.2.2.2.2.2.2.2.2.2.2.2.1 0), getL, takeL, dropL, TK.isAgg, reduceIte])
                  (try (refine Later.mk ?_; cbv; try simp only [wp, (show ∀ n : Nat, _ = n from fun n => wf.2.2.2.2.2.2.2.2.2.2.2.2.2.1 (Int.ofNat n)), (show _ = (0 : Nat) from wf.2.2.2.2.2.2.2.2.2.2.2.2.2.1 0), getL, takeL, dropL, TK.isAgg, reduceIte]))
                  repeat' first | trivial | with_reducible refine And.intro ?_ ?_ | intro c9
                  refine awake.call ?_
                  rintro _ rfl
                  (cbv; try simp only [wp, (show ∀ n : Nat, _ = n from fun n => wf.2.2.2.2.2.2.2.2.2.2.2.2.2.1 (Int.ofNat n)), (show _ = (0 : Nat) from wf.2.2.2.2.2.2.2.2.2.2.2.2.2.1 0), getL, takeL, dropL, TK.isAgg, reduceIte])
                  (try (refine Later.mk ?_; cbv; try simp only [wp, (show ∀ n : Nat, _ = n from fun n => wf.2.2.2.2.2.2.2.2.2.2.2.2.2.1 (Int.ofNat n)), (show _ = (0 : Nat) from wf.2.2.2.2.2.2.2.2.2.2.2.2.2.1 0), getL, takeL, dropL, TK.isAgg, reduceIte]))
                  repeat' first | trivial | with_reducible refine And.intro ?_ ?_ | intro c9
                  all_goals exact hR _
                · clear h1
                  (cbv; try simp only [wp, (show ∀ n : Nat, _ = n from fun n => wf.2.2.2.2.2.2.2.2.2.2.2.2.2.1 (Int.ofNat n)), (show _ = (0 : Nat) from wf.2.2.2.2.2.2.2.2.2.2.2.2.2.1 0), getL, takeL, dropL, TK.isAgg, reduceIte])
                  (try (refine Later.mk ?_; cbv; try simp only [wp, (show ∀ n : Nat, _ = n from fun n => wf.2.2.2.2.2.2.2.2.2.2.2.2.2.1 (Int.ofNat n)), (show _ = (0 : Nat) from wf.2.2.2.2.2.2.2.2.2.2.2.2.2.1 0), getL, takeL, dropL, TK.isAgg, reduceIte]))
                  repeat' first | with_reducible refine And.intro ?_ ?_ | (intro c9; first | exact absurd (by (try simp only [wf, nc, nc', Int.toNat_natCast, bsz, ByteArray.size_append, List.length_cons, List.length_nil] at *); (try simp (disch := omega) only [w64, w32, wu8] at *); first | done | omega) he | skip)
                  all_goals (try (refine Later.mk ?_; cbv; try simp only [wp, (show ∀ n : Nat, _ = n from fun n => wf.2.2.2.2.2.2.2.2.2.2.2.2.2.1 (Int.ofNat n)), (show _ = (0 : Nat) from wf.2.2.2.2.2.2.2.2.2.2.2.2.2.1 0), getL, takeL, dropL, TK.isAgg, reduceIte]))
                  refine awake.call ?_
                  rintro _ rfl
                  (cbv; try simp only [wp, (show ∀ n : Nat, _ = n from fun n => wf.2.2.2.2.2.2.2.2.2.2.2.2.2.1 (Int.ofNat n)), (show _ = (0 : Nat) from wf.2.2.2.2.2.2.2.2.2.2.2.2.2.1 0), getL, takeL, dropL, TK.isAgg, reduceIte])
                  (try (refine Later.mk ?_; cbv; try simp only [wp, (show ∀ n : Nat, _ = n from fun n => wf.2.2.2.2.2.2.2.2.2.2.2.2.2.1 (Int.ofNat n)), (show _ = (0 : Nat) from wf.2.2.2.2.2.2.2.2.2.2.2.2.2.1 0), getL, takeL, dropL, TK.isAgg, reduceIte]))
                  repeat' first | trivial | with_reducible refine And.intro ?_ ?_ | intro c9
                  all_goals exact hR _


            · clear h1
              (cbv; try simp only [wp, (show ∀ n : Nat, _ = n from fun n => wf.2.2.2.2.2.2.2.2.2.2.2.2.2.1 (Int.ofNat n)), (show _ = (0 : Nat) from wf.2.2.2.2.2.2.2.2.2.2.2.2.2.1 0), getL, takeL, dropL, TK.isAgg, reduceIte])
              (try (refine Later.mk ?_; cbv; try simp only [wp, (show ∀ n : Nat, _ = n from fun n => wf.2.2.2.2.2.2.2.2.2.2.2.2.2.1 (Int.ofNat n)), (show _ = (0 : Nat) from wf.2.2.2.2.2.2.2.2.2.2.2.2.2.1 0), getL, takeL, dropL, TK.isAgg, reduceIte]))
              repeat' first | with_reducible refine And.intro ?_ ?_ | (intro c9; first | exact absurd (by (try simp only [wf, nc, nc', Int.toNat_natCast, bsz, ByteArray.size_append, List.length_cons, List.length_nil] at *); (try simp (disch := omega) only [w64, w32, wu8] at *); first | done | omega) he | skip)
              all_goals (try (refine Later.mk ?_; cbv; try simp only [wp, (show ∀ n : Nat, _ = n from fun n => wf.2.2.2.2.2.2.2.2.2.2.2.2.2.1 (Int.ofNat n)), (show _ = (0 : Nat) from wf.2.2.2.2.2.2.2.2.2.2.2.2.2.1 0), getL, takeL, dropL, TK.isAgg, reduceIte]))
              refine (Suc c n V P0 hn).call @fun r1 h1 => ?_
              rcases h1 with ⟨h1, _⟩ | ⟨_, h1⟩
              · exact absurd v1 h1
              have h1b := h1
              obtain ⟨q, _, _, c2, n2, V2, P2, e2, rfl, _⟩ := h1b
              by_cases he : e2 = 0
              · subst he
                obtain ⟨m1, m2, m3, m4⟩ := hsuc _ _ _ _ h1
                clear h1
                (cbv; try simp only [wp, (show ∀ n : Nat, _ = n from fun n => wf.2.2.2.2.2.2.2.2.2.2.2.2.2.1 (Int.ofNat n)), (show _ = (0 : Nat) from wf.2.2.2.2.2.2.2.2.2.2.2.2.2.1 0), getL, takeL, dropL, TK.isAgg, reduceIte])
                repeat' first | trivial | with_reducible refine And.intro ?_ ?_ | intro c9
                (try (refine Later.mk ?_; cbv; try simp only [wp, (show ∀ n : Nat, _ = n from fun n => wf.2.2.2.2.2.2.2.2.2.2.2.2.2.1 (Int.ofNat n)), (show _ = (0 : Nat) from wf.2.2.2.2.2.2.2.2.2.2.2.2.2.1 0), getL, takeL, dropL, TK.isAgg, reduceIte]))
                repeat' first | trivial | with_reducible refine And.intro ?_ ?_ | intro c9
                refine (Leq c c2 n n2 V P0 V2 P2 (by omega) (by omega)).call ?_
                rintro _ ⟨b, hb, rfl⟩
                obtain rfl : b = true := hb.2 (⟨v1, m2, m3⟩)
                clear hb
                (cbv; try simp only [wp, (show ∀ n : Nat, _ = n from fun n => wf.2.2.2.2.2.2.2.2.2.2.2.2.2.1 (Int.ofNat n)), (show _ = (0 : Nat) from wf.2.2.2.2.2.2.2.2.2.2.2.2.2.1 0), getL, takeL, dropL, TK.isAgg, reduceIte])
                (try (refine Later.mk ?_; cbv; try simp only [wp, (show ∀ n : Nat, _ = n from fun n => wf.2.2.2.2.2.2.2.2.2.2.2.2.2.1 (Int.ofNat n)), (show _ = (0 : Nat) from wf.2.2.2.2.2.2.2.2.2.2.2.2.2.1 0), getL, takeL, dropL, TK.isAgg, reduceIte]))
                repeat' first | trivial | with_reducible refine And.intro ?_ ?_ | intro c9
                refine (Leq c2 c n2 n V2 P2 V P0 (by omega) (by omega)).call ?_
                rintro _ ⟨b, hb, rfl⟩
                obtain rfl : b = false := (by cases b; rfl; exact absurd (hb.1 rfl).2.2 (m4))
                clear hb
                (cbv; try simp only [wp, (show ∀ n : Nat, _ = n from fun n => wf.2.2.2.2.2.2.2.2.2.2.2.2.2.1 (Int.ofNat n)), (show _ = (0 : Nat) from wf.2.2.2.2.2.2.2.2.2.2.2.2.2.1 0), getL, takeL, dropL, TK.isAgg, reduceIte])
                (try (refine Later.mk ?_; cbv; try simp only [wp, (show ∀ n : Nat, _ = n from fun n => wf.2.2.2.2.2.2.2.2.2.2.2.2.2.1 (Int.ofNat n)), (show _ = (0 : Nat) from wf.2.2.2.2.2.2.2.2.2.2.2.2.2.1 0), getL, takeL, dropL, TK.isAgg, reduceIte]))
                repeat' first | trivial | with_reducible refine And.intro ?_ ?_ | intro c9
                refine awake.call ?_
                rintro _ rfl
                (cbv; try simp only [wp, (show ∀ n : Nat, _ = n from fun n => wf.2.2.2.2.2.2.2.2.2.2.2.2.2.1 (Int.ofNat n)), (show _ = (0 : Nat) from wf.2.2.2.2.2.2.2.2.2.2.2.2.2.1 0), getL, takeL, dropL, TK.isAgg, reduceIte])
                (try (refine Later.mk ?_; cbv; try simp only [wp, (show ∀ n : Nat, _ = n from fun n => wf.2.2.2.2.2.2.2.2.2.2.2.2.2.1 (Int.ofNat n)), (show _ = (0 : Nat) from wf.2.2.2.2.2.2.2.2.2.2.2.2.2.1 0), getL, takeL, dropL, TK.isAgg, reduceIte]))
                repeat' first | trivial | with_reducible refine And.intro ?_ ?_ | intro c9
                all_goals exact hR _
              · clear h1
                (cbv; try simp only [wp, (show ∀ n : Nat, _ = n from fun n => wf.2.2.2.2.2.2.2.2.2.2.2.2.2.1 (Int.ofNat n)), (show _ = (0 : Nat) from wf.2.2.2.2.2.2.2.2.2.2.2.2.2.1 0), getL, takeL, dropL, TK.isAgg, reduceIte])
                (try (refine Later.mk ?_; cbv; try simp only [wp, (show ∀ n : Nat, _ = n from fun n => wf.2.2.2.2.2.2.2.2.2.2.2.2.2.1 (Int.ofNat n)), (show _ = (0 : Nat) from wf.2.2.2.2.2.2.2.2.2.2.2.2.2.1 0), getL, takeL, dropL, TK.isAgg, reduceIte]))
                repeat' first | with_reducible refine And.intro ?_ ?_ | (intro c9; first | exact absurd (by (try simp only [wf, nc, nc', Int.toNat_natCast, bsz, ByteArray.size_append, List.length_cons, List.length_nil] at *); (try simp (disch := omega) only [w64, w32, wu8] at *); first | done | omega) he | skip)
                all_goals (try (refine Later.mk ?_; cbv; try simp only [wp, (show ∀ n : Nat, _ = n from fun n => wf.2.2.2.2.2.2.2.2.2.2.2.2.2.1 (Int.ofNat n)), (show _ = (0 : Nat) from wf.2.2.2.2.2.2.2.2.2.2.2.2.2.1 0), getL, takeL, dropL, TK.isAgg, reduceIte]))
                refine awake.call ?_
                rintro _ rfl
                (cbv; try simp only [wp, (show ∀ n : Nat, _ = n from fun n => wf.2.2.2.2.2.2.2.2.2.2.2.2.2.1 (Int.ofNat n)), (show _ = (0 : Nat) from wf.2.2.2.2.2.2.2.2.2.2.2.2.2.1 0), getL, takeL, dropL, TK.isAgg, reduceIte])
                (try (refine Later.mk ?_; cbv; try simp only [wp, (show ∀ n : Nat, _ = n from fun n => wf.2.2.2.2.2.2.2.2.2.2.2.2.2.1 (Int.ofNat n)), (show _ = (0 : Nat) from wf.2.2.2.2.2.2.2.2.2.2.2.2.2.1 0), getL, takeL, dropL, TK.isAgg, reduceIte]))
                repeat' first | trivial | with_reducible refine And.intro ?_ ?_ | intro c9
                all_goals exact hR _


          · (try (refine Later.mk ?_; cbv; try simp only [wp, (show ∀ n : Nat, _ = n from fun n => wf.2.2.2.2.2.2.2.2.2.2.2.2.2.1 (Int.ofNat n)), (show _ = (0 : Nat) from wf.2.2.2.2.2.2.2.2.2.2.2.2.2.1 0), getL, takeL, dropL, TK.isAgg, reduceIte]))
            repeat' first | trivial | with_reducible refine And.intro ?_ ?_ | intro c9
            refine (Max c c' n n' V P0 V' P' hn hn').call @fun r1 h1 => ?_
            rcases h1 with ⟨h1, _⟩ | ⟨_, h1⟩
            · exact absurd ⟨v1, v2⟩ h1
            have h1b := h1
            obtain ⟨q, _, _, c1, n1, V1, P1, e1, rfl, _⟩ := h1b
            by_cases he : e1 = 0
            · subst he
              obtain ⟨k1, k2, k3, k4, k5⟩ := hmax _ _ _ _ h1
              clear h1
              (cbv; try simp only [wp, (show ∀ n : Nat, _ = n from fun n => wf.2.2.2.2.2.2.2.2.2.2.2.2.2.1 (Int.ofNat n)), (show _ = (0 : Nat) from wf.2.2.2.2.2.2.2.2.2.2.2.2.2.1 0), getL, takeL, dropL, TK.isAgg, reduceIte])
              repeat' first | trivial | with_reducible refine And.intro ?_ ?_ | intro c9
              (try (refine Later.mk ?_; cbv; try simp only [wp, (show ∀ n : Nat, _ = n from fun n => wf.2.2.2.2.2.2.2.2.2.2.2.2.2.1 (Int.ofNat n)), (show _ = (0 : Nat) from wf.2.2.2.2.2.2.2.2.2.2.2.2.2.1 0), getL, takeL, dropL, TK.isAgg, reduceIte]))
              repeat' first | trivial | with_reducible refine And.intro ?_ ?_ | intro c9
              refine (Leq c c1 n n1 V P0 V1 P1 (by omega) (by omega)).call ?_
              rintro _ ⟨b, hb, rfl⟩
              obtain rfl : b = true := hb.2 (⟨v1, k2, k3⟩)
              clear hb
              (cbv; try simp only [wp, (show ∀ n : Nat, _ = n from fun n => wf.2.2.2.2.2.2.2.2.2.2.2.2.2.1 (Int.ofNat n)), (show _ = (0 : Nat) from wf.2.2.2.2.2.2.2.2.2.2.2.2.2.1 0), getL, takeL, dropL, TK.isAgg, reduceIte])
              (try (refine Later.mk ?_; cbv; try simp only [wp, (show ∀ n : Nat, _ = n from fun n => wf.2.2.2.2.2.2.2.2.2.2.2.2.2.1 (Int.ofNat n)), (show _ = (0 : Nat) from wf.2.2.2.2.2.2.2.2.2.2.2.2.2.1 0), getL, takeL, dropL, TK.isAgg, reduceIte]))
              repeat' first | trivial | with_reducible refine And.intro ?_ ?_ | intro c9
              refine (Leq c' c1 n' n1 V' P' V1 P1 (by omega) (by omega)).call ?_
              rintro _ ⟨b, hb, rfl⟩
              obtain rfl : b = true := hb.2 (⟨v2, k2, k4⟩)
              clear hb
              (cbv; try simp only [wp, (show ∀ n : Nat, _ = n from fun n => wf.2.2.2.2.2.2.2.2.2.2.2.2.2.1 (Int.ofNat n)), (show _ = (0 : Nat) from wf.2.2.2.2.2.2.2.2.2.2.2.2.2.1 0), getL, takeL, dropL, TK.isAgg, reduceIte])
              (try (refine Later.mk ?_; cbv; try simp only [wp, (show ∀ n : Nat, _ = n from fun n => wf.2.2.2.2.2.2.2.2.2.2.2.2.2.1 (Int.ofNat n)), (show _ = (0 : Nat) from wf.2.2.2.2.2.2.2.2.2.2.2.2.2.1 0), getL, takeL, dropL, TK.isAgg, reduceIte]))
              repeat' first | trivial | with_reducible refine And.intro ?_ ?_ | intro c9
              refine (Leq c c'' n n'' V P0 V'' P'' (by omega) (by omega)).call ?_
              rintro _ ⟨b, hb, rfl⟩
              rcases hb.dich with ⟨rfl, -, -, w3⟩ | ⟨rfl, w3⟩ <;> clear hb <;> (cbv; try simp only [wp, (show ∀ n : Nat, _ = n from fun n => wf.2.2.2.2.2.2.2.2.2.2.2.2.2.1 (Int.ofNat n)), (show _ = (0 : Nat) from wf.2.2.2.2.2.2.2.2.2.2.2.2.2.1 0), getL, takeL, dropL, TK.isAgg, reduceIte])
              · (try (refine Later.mk ?_; cbv; try simp only [wp, (show ∀ n : Nat, _ = n from fun n => wf.2.2.2.2.2.2.2.2.2.2.2.2.2.1 (Int.ofNat n)), (show _ = (0 : Nat) from wf.2.2.2.2.2.2.2.2.2.2.2.2.2.1 0), getL, takeL, dropL, TK.isAgg, reduceIte]))
                repeat' first | trivial | with_reducible refine And.intro ?_ ?_ | intro c9
                refine (Leq c' c'' n' n'' V' P' V'' P'' (by omega) (by omega)).call ?_
                rintro _ ⟨b, hb, rfl⟩
                rcases hb.dich with ⟨rfl, -, -, w4⟩ | ⟨rfl, w4⟩ <;> clear hb <;> (cbv; try simp only [wp, (show ∀ n : Nat, _ = n from fun n => wf.2.2.2.2.2.2.2.2.2.2.2.2.2.1 (Int.ofNat n)), (show _ = (0 : Nat) from wf.2.2.2.2.2.2.2.2.2.2.2.2.2.1 0), getL, takeL, dropL, TK.isAgg, reduceIte])
                · (try (refine Later.mk ?_; cbv; try simp only [wp, (show ∀ n : Nat, _ = n from fun n => wf.2.2.2.2.2.2.2.2.2.2.2.2.2.1 (Int.ofNat n)), (show _ = (0 : Nat) from wf.2.2.2.2.2.2.2.2.2.2.2.2.2.1 0), getL, takeL, dropL, TK.isAgg, reduceIte]))
                  repeat' first | trivial | with_reducible refine And.intro ?_ ?_ | intro c9
                  refine (Leq c1 c'' n1 n'' V1 P1 V'' P'' (by omega) (by omega)).call ?_
                  rintro _ ⟨b, hb, rfl⟩
                  obtain rfl : b = true := hb.2 (⟨k2, v3, k5 w3 w4⟩)
                  clear hb
                  (cbv; try simp only [wp, (show ∀ n : Nat, _ = n from fun n => wf.2.2.2.2.2.2.2.2.2.2.2.2.2.1 (Int.ofNat n)), (show _ = (0 : Nat) from wf.2.2.2.2.2.2.2.2.2.2.2.2.2.1 0), getL, takeL, dropL, TK.isAgg, reduceIte])
                  (try (refine Later.mk ?_; cbv; try simp only [wp, (show ∀ n : Nat, _ = n from fun n => wf.2.2.2.2.2.2.2.2.2.2.2.2.2.1 (Int.ofNat n)), (show _ = (0 : Nat) from wf.2.2.2.2.2.2.2.2.2.2.2.2.2.1 0), getL, takeL, dropL, TK.isAgg, reduceIte]))
                  repeat' first | trivial | with_reducible refine And.intro ?_ ?_ | intro c9
                  refine (Suc c n V P0 hn).call @fun r1 h1 => ?_
                  rcases h1 with ⟨h1, _⟩ | ⟨_, h1⟩
                  · exact absurd v1 h1
                  have h1b := h1
                  obtain ⟨q, _, _, c2, n2, V2, P2, e2, rfl, _⟩ := h1b
                  by_cases he : e2 = 0
                  · subst he
                    obtain ⟨m1, m2, m3, m4⟩ := hsuc _ _ _ _ h1
                    clear h1
                    (cbv; try simp only [wp, (show ∀ n : Nat, _ = n from fun n => wf.2.2.2.2.2.2.2.2.2.2.2.2.2.1 (Int.ofNat n)), (show _ = (0 : Nat) from wf.2.2.2.2.2.2.2.2.2.2.2.2.2.1 0), getL, takeL, dropL, TK.isAgg, reduceIte])
                    repeat' first | trivial | with_reducible refine And.intro ?_ ?_ | intro c9
                    (try (refine Later.mk ?_; cbv; try simp only [wp, (show ∀ n : Nat, _ = n from fun n => wf.2.2.2.2.2.2.2.2.2.2.2.2.2.1 (Int.ofNat n)), (show _ = (0 : Nat) from wf.2.2.2.2.2.2.2.2.2.2.2.2.2.1 0), getL, takeL, dropL, TK.isAgg, reduceIte]))
                    repeat' first | trivial | with_reducible refine And.intro ?_ ?_ | intro c9
                    refine (Leq c c2 n n2 V P0 V2 P2 (by omega) (by omega)).call ?_
                    rintro _ ⟨b, hb, rfl⟩
                    obtain rfl : b = true := hb.2 (⟨v1, m2, m3⟩)
                    clear hb
                    (cbv; try simp only [wp, (show ∀ n : Nat, _ = n from fun n => wf.2.2.2.2.2.2.2.2.2.2.2.2.2.1 (Int.ofNat n)), (show _ = (0 : Nat) from wf.2.2.2.2.2.2.2.2.2.2.2.2.2.1 0), getL, takeL, dropL, TK.isAgg, reduceIte])
                    (try (refine Later.mk ?_; cbv; try simp only [wp, (show ∀ n : Nat, _ = n from fun n => wf.2.2.2.2.2.2.2.2.2.2.2.2.2.1 (Int.ofNat n)), (show _ = (0 : Nat) from wf.2.2.2.2.2.2.2.2.2.2.2.2.2.1 0), getL, takeL, dropL, TK.isAgg, reduceIte]))
                    repeat' first | trivial | with_reducible refine And.intro ?_ ?_ | intro c9
                    refine (Leq c2 c n2 n V2 P2 V P0 (by omega) (by omega)).call ?_
                    rintro _ ⟨b, hb, rfl⟩
                    obtain rfl : b = false := (by cases b; rfl; exact absurd (hb.1 rfl).2.2 (m4))
                    clear hb
                    (cbv; try simp only [wp, (show ∀ n : Nat, _ = n from fun n => wf.2.2.2.2.2.2.2.2.2.2.2.2.2.1 (Int.ofNat n)), (show _ = (0 : Nat) from wf.2.2.2.2.2.2.2.2.2.2.2.2.2.1 0), getL, takeL, dropL, TK.isAgg, reduceIte])
                    (try (refine Later.mk ?_; cbv; try simp only [wp, (show ∀ n : Nat, _ = n from fun n => wf.2.2.2.2.2.2.2.2.2.2.2.2.2.1 (Int.ofNat n)), (show _ = (0 : Nat) from wf.2.2.2.2.2.2.2.2.2.2.2.2.2.1 0), getL, takeL, dropL, TK.isAgg, reduceIte]))
                    repeat' first | trivial | with_reducible refine And.intro ?_ ?_ | intro c9
                    refine awake.call ?_
                    rintro _ rfl
                    (cbv; try simp only [wp, (show ∀ n : Nat, _ = n from fun n => wf.2.2.2.2.2.2.2.2.2.2.2.2.2.1 (Int.ofNat n)), (show _ = (0 : Nat) from wf.2.2.2.2.2.2.2.2.2.2.2.2.2.1 0), getL, takeL, dropL, TK.isAgg, reduceIte])
                    (try (refine Later.mk ?_; cbv; try simp only [wp, (show ∀ n : Nat, _ = n from fun n => wf.2.2.2.2.2.2.2.2.2.2.2.2.2.1 (Int.ofNat n)), (show _ = (0 : Nat) from wf.2.2.2.2.2.2.2.2.2.2.2.2.2.1 0), getL, takeL, dropL, TK.isAgg, reduceIte]))
                    repeat' first | trivial | with_reducible refine And.intro ?_ ?_ | intro c9
                    all_goals exact hR _
                  · clear h1
                    (cbv; try simp only [wp, (show ∀ n : Nat, _ = n from fun n => wf.2.2.2.2.2.2.2.2.2.2.2.2.2.1 (Int.ofNat n)), (show _ = (0 : Nat) from wf.2.2.2.2.2.2.2.2.2.2.2.2.2.1 0), getL, takeL, dropL, TK.isAgg, reduceIte])
                    (try (refine Later.mk ?_; cbv; try simp only [wp, (show ∀ n : Nat, _ = n from fun n => wf.2.2.2.2.2.2.2.2.2.2.2.2.2.1 (Int.ofNat n)), (show _ = (0 : Nat) from wf.2.2.2.2.2.2.2.2.2.2.2.2.2.1 0), getL, takeL, dropL, TK.isAgg, reduceIte]))
                    repeat' first | with_reducible refine And.intro ?_ ?_ | (intro c9; first | exact absurd (by (try simp only [wf, nc, nc', Int.toNat_natCast, bsz, ByteArray.size_append, List.length_cons, List.length_nil] at *); (try simp (disch := omega) only [w64, w32, wu8] at *); first | done | omega) he | skip)
                    all_goals (try (refine Later.mk ?_; cbv; try simp only [wp, (show ∀ n : Nat, _ = n from fun n => wf.2.2.2.2.2.2.2.2.2.2.2.2.2.1 (Int.ofNat n)), (show _ = (0 : Nat) from wf.2.2.2.2.2.2.2.2.2.2.2.2.2.1 0), getL, takeL, dropL, TK.isAgg, reduceIte]))
                    refine awake.call ?_
                    rintro _ rfl
                    (cbv; try simp only [wp, (show ∀ n : Nat, _ = n from fun n => wf.2.2.2.2.2.2.2.2.2.2.2.2.2.1 (Int.ofNat n)), (show _ = (0 : Nat) from wf.2.2.2.2.2.2.2.2.2.2.2.2.2.1 0), getL, takeL, dropL, TK.isAgg, reduceIte])
                    (try (refine Later.mk ?_; cbv; try simp only [wp, (show ∀ n : Nat, _ = n from fun n => wf.2.2.2.2.2.2.2.2.2.2.2.2.2.1 (Int.ofNat n)), (show _ = (0 : Nat) from wf.2.2.2.2.2.2.2.2.2.2.2.2.2.1 0), getL, takeL, dropL, TK.isAgg, reduceIte]))
                    repeat' first | trivial | with_reducible refine And.intro ?_ ?_ | intro c9
                    all_goals exact hR _

                · (try (refine Later.mk ?_; cbv; try simp only [wp, (show ∀ n : Nat, _ = n from fun n => wf.2.2.2.2.2.2.2.2.2.2.2.2.2.1 (Int.ofNat n)), (show _ = (0 : Nat) from wf.2.2.2.2.2.2.2.2.2.2.2.2.2.1 0), getL, takeL, dropL, TK.isAgg, reduceIte]))
                  repeat' first | trivial | with_reducible refine And.intro ?_ ?_ | intro c9
                  refine (Suc c n V P0 hn).call @fun r1 h1 => ?_
                  rcases h1 with ⟨h1, _⟩ | ⟨_, h1⟩
                  · exact absurd v1 h1
                  have h1b := h1
                  obtain ⟨q, _, _, c2, n2, V2, P2, e2, rfl, _⟩ := h1b
                  by_cases he : e2 = 0
                  · subst he
                    obtain ⟨m1, m2, m3, m4⟩ := hsuc _ _ _ _ h1
                    clear h1
                    (cbv; try simp only [wp, (show ∀ n : Nat, _ = n from fun n => wf.2.2.2.2.2.2.2.2.2.2.2.2.2.1 (Int.ofNat n)), (show _ = (0 : Nat) from wf.2.2.2.2.2.2.2.2.2.2.2.2.2.1 0), getL, takeL, dropL, TK.isAgg, reduceIte])
                    repeat' first | trivial | with_reducible refine And.intro ?_ ?_ | intro c9
                    (try (refine Later.mk ?_; cbv; try simp only [wp, (show ∀ n : Nat, _ = n from fun n => wf.2.2.2.2.2.2.2.2.2.2.2.2.2.1 (Int.ofNat n)), (show _ = (0 : Nat) from wf.2.2.2.2.2.2.2.2.2.2.2.2.2.1 0), getL, takeL, dropL, TK.isAgg, reduceIte]))
                    repeat' first | trivial | with_reducible refine And.intro ?_ ?_ | intro c9
                    refine (Leq c c2 n n2 V P0 V2 P2 (by omega) (by omega)).call ?_
                    rintro _ ⟨b, hb, rfl⟩
                    obtain rfl : b = true := hb.2 (⟨v1, m2, m3⟩)
                    clear hb
                    (cbv; try simp only [wp, (show ∀ n : Nat, _ = n from fun n => wf.2.2.2.2.2.2.2.2.2.2.2.2.2.1 (Int.ofNat n)), (show _ = (0 : Nat) from wf.2.2.2.2.2.2.2.2.2.2.2.2.2.1 0), getL, takeL, dropL, TK.isAgg, reduceIte])
                    (try (refine Later.mk ?_; cbv; try simp only [wp, (show ∀ n : Nat, _ = n from fun n => wf.2.2.2.2.2.2.2.2.2.2.2.2.2.1 (Int.ofNat n)), (show _ = (0 : Nat) from wf.2.2.2.2.2.2.2.2.2.2.2.2.2.1 0), getL, takeL, dropL, TK.isAgg, reduceIte]))
                    repeat' first | trivial | with_reducible refine And.intro ?_ ?_ | intro c9
                    refine (Leq c2 c n2 n V2 P2 V P0 (by omega) (by omega)).call ?_
                    rintro _ ⟨b, hb, rfl⟩
                    obtain rfl : b = false := (by cases b; rfl; exact absurd (hb.1 rfl).2.2 (m4))
                    clear hb
                    (cbv; try simp only [wp, (show ∀ n : Nat, _ = n from fun n => wf.2.2.2.2.2.2.2.2.2.2.2.2.2.1 (Int.ofNat n)), (show _ = (0 : Nat) from wf.2.2.2.2.2.2.2.2.2.2.2.2.2.1 0), getL, takeL, dropL, TK.isAgg, reduceIte])
                    (try (refine Later.mk ?_; cbv; try simp only [wp, (show ∀ n : Nat, _ = n from fun n => wf.2.2.2.2.2.2.2.2.2.2.2.2.2.1 (Int.ofNat n)), (show _ = (0 : Nat) from wf.2.2.2.2.2.2.2.2.2.2.2.2.2.1 0), getL, takeL, dropL, TK.isAgg, reduceIte]))
                    repeat' first | trivial | with_reducible refine And.intro ?_ ?_ | intro c9
                    refine awake.call ?_
                    rintro _ rfl
                    (cbv; try simp only [wp, (show ∀ n : Nat, _ = n from fun n => wf.2.2.2.2.2.2.2.2.2.2.2.2.2.1 (Int.ofNat n)), (show _ = (0 : Nat) from wf.2.2.2.2.2.2.2.2.2.2.2.2.2.1 0), getL, takeL, dropL, TK.isAgg, reduceIte])
                    (try (refine Later.mk ?_; cbv; try simp only [wp, (show ∀ n : Nat, _ = n from fun n => wf.2.2.2.2.2.2.2.2.2.2.2.2.2.1 (Int.ofNat n)), (show _ = (0 : Nat) from wf.2.2.2.2.2.2.2.2.2.2.2.2.2.1 0), getL, takeL, dropL, TK.isAgg, reduceIte]))
                    repeat' first | trivial | with_reducible refine And.intro ?_ ?_ | intro c9
                    all_goals exact hR _
                  · clear h1
                    (cbv; try simp only [wp, (show ∀ n : Nat, _ = n from fun n => wf.2.2.2.2.2.2.2.2.2.2.2.2.2.1 (Int.ofNat n)), (show _ = (0 : Nat) from wf.2.2.2.2.2.2.2.2.2.2.2.2.2.1 0), getL, takeL, dropL, TK.isAgg, reduceIte])
                    (try (refine Later.mk ?_; cbv; try simp only [wp, (show ∀ n : Nat, _ = n from fun n => wf.2.2.2.2.2.2.2.2.2.2.2.2.2.1 (Int.ofNat n)), (show _ = (0 : Nat) from wf.2.2.2.2.2.2.2.2.2.2.2.2.2.1 0), getL, takeL, dropL, TK.isAgg, reduceIte]))
                    repeat' first | with_reducible refine And.intro ?_ ?_ | (intro c9; first | exact absurd (by (try simp only [wf, nc, nc', Int.toNat_natCast, bsz, ByteArray.size_append, List.length_cons, List.length_nil] at *); (try simp (disch := omega) only [w64, w32, wu8] at *); first | done | omega) he | skip)
                    all_goals (try (refine Later.mk ?_; cbv; try simp only [wp, (show ∀ n : Nat, _ = n from fun n => wf.2.2.2.2.2.2.2.2.2.2.2.2.2.1 (Int.ofNat n)), (show _ = (0 : Nat) from wf.2.2.2.2.2.2.2.2.2.2.2.2.2.1 0), getL, takeL, dropL, TK.isAgg, reduceIte]))
                    refine awake.call ?_
                    rintro _ rfl
                    (cbv; try simp only [wp, (show ∀ n : Nat, _ = n from fun n => wf.2.2.2.2.2.2.2.2.2.2.2.2.2.1 (Int.ofNat n)), (show _ = (0 : Nat) from wf.2.2.2.2.2.2.2.2.2.2.2.2.2.1 0), getL, takeL, dropL, TK.isAgg, reduceIte])
                    (try (refine Later.mk ?_; cbv; try simp only [wp, (show ∀ n : Nat, _ = n from fun n => wf.2.2.2.2.2.2.2.2.2.2.2.2.2.1 (Int.ofNat n)), (show _ = (0 : Nat) from wf.2.2.2.2.2.2.2.2.2.2.2.2.2.1 0), getL, takeL, dropL, TK.isAgg, reduceIte]))
                    repeat' first | trivial | with_reducible refine And.intro ?_ ?_ | intro c9
                    all_goals exact hR _


              · (try (refine Later.mk ?_; cbv; try simp only [wp, (show ∀ n : Nat, _ = n from fun n => wf.2.2.2.2.2.2.2.2.2.2.2.2.2.1 (Int.ofNat n)), (show _ = (0 : Nat) from wf.2.2.2.2.2.2.2.2.2.2.2.2.2.1 0), getL, takeL, dropL, TK.isAgg, reduceIte]))
                repeat' first | trivial | with_reducible refine And.intro ?_ ?_ | intro c9
                refine (Suc c n V P0 hn).call @fun r1 h1 => ?_
                rcases h1 with ⟨h1, _⟩ | ⟨_, h1⟩
                · exact absurd v1 h1
                have h1b := h1
                obtain ⟨q, _, _, c2, n2, V2, P2, e2, rfl, _⟩ := h1b
                by_cases he : e2 = 0
                · subst he
                  obtain ⟨m1, m2, m3, m4⟩ := hsuc _ _ _ _ h1
                  clear h1
                  (cbv; try simp only [wp, (show ∀ n : Nat, _ = n from fun n => wf.2.2.2.2.2.2.2.2.2.2.2.2.2.1 (Int.ofNat n)), (show _ = (0 : Nat) from wf.2.2.2.2.2.2.2.2.2.2.2.2.2.1 0), getL, takeL, dropL, TK.isAgg, reduceIte])
                  repeat' first | trivial | with_reducible refine And.intro ?_ ?_ | intro c9
                  (try (refine Later.mk ?_; cbv; try simp only [wp, (show ∀ n : Nat, _ = n from fun n => wf.2.2.2.2.2.2.2.2.2.2.2.2.2.1 (Int.ofNat n)), (show _ = (0 : Nat) from wf.2.2.2.2.2.2.2.2.2.2.2.2.2.1 0), getL, takeL, dropL, TK.isAgg, reduceIte]))
                  repeat' first | trivial | with_reducible refine And.intro ?_ ?_ | intro c9
                  refine (Leq c c2 n n2 V P0 V2 P2 (by omega) (by omega)).call ?_
                  rintro _ ⟨b, hb, rfl⟩
                  obtain rfl : b = true := hb.2 (⟨v1, m2, m3⟩)
                  clear hb
                  (cbv; try simp only [wp, (show ∀ n : Nat, _ = n from fun n => wf.2.2.2.2.2.2.2.2.2.2.2.2.2.1 (Int.ofNat n)), (show _ = (0 : Nat) from wf.2.2.2.2.2.2.2.2.2.2.2.2.2.1 0), getL, takeL, dropL, TK.isAgg, reduceIte])
                  (try (refine Later.mk ?_; cbv; try simp only [wp, (show ∀ n : Nat, _ = n from fun n => wf.2.2.2.2.2.2.2.2.2.2.2.2.2.1 (Int.ofNat n)), (show _ = (0 : Nat) from wf.2.2.2.2.2.2.2.2.2.2.2.2.2.1 0), getL, takeL, dropL, TK.isAgg, reduceIte]))
                  repeat' first | trivial | with_reducible refine And.intro ?_ ?_ | intro c9
                  refine (Leq c2 c n2 n V2 P2 V P0 (by omega) (by omega)).call ?_
                  rintro _ ⟨b, hb, rfl⟩
                  obtain rfl : b = false := (by cases b; rfl; exact absurd (hb.1 rfl).2.2 (m4))
                  clear hb
                  (cbv; try simp only [wp, (show ∀ n : Nat, _ = n from fun n => wf.2.2.2.2.2.2.2.2.2.2.2.2.2.1 (Int.ofNat n)), (show _ = (0 : Nat) from wf.2.2.2.2.2.2.2.2.2.2.2.2.2.1 0), getL, takeL, dropL, TK.isAgg, reduceIte])
                  (try (refine Later.mk ?_; cbv; try simp only [wp, (show ∀ n : Nat, _ = n from fun n => wf.2.2.2.2.2.2.2.2.2.2.2.2.2.1 (Int.ofNat n)), (show _ = (0 : Nat) from wf.2.2.2.2.2.2.2.2.2.2.2.2.2.1 0), getL, takeL, dropL, TK.isAgg, reduceIte]))
                  repeat' first | trivial | with_reducible refine And.intro ?_ ?_ | intro c9
                  refine awake.call ?_
                  rintro _ rfl
                  (cbv; try simp only [wp, (show ∀ n : Nat, _ = n from fun n => wf.2.2.2.2.2.2.2.2.2.2.2.2.2.1 (Int.ofNat n)), (show _ = (0 : Nat) from wf.2.2.2.2.2.2.2.2.2.2.2.2.2.1 0), getL, takeL, dropL, TK.isAgg, reduceIte])
                  (try (refine Later.mk ?_; cbv; try simp only [wp, (show ∀ n : Nat, _ = n from fun n => wf.2.2.2.2.2.2.2.2.2.2.2.2.2.1 (Int.ofNat n)), (show _ = (0 : Nat) from wf.2.2.2.2.2.2.2.2.2.2.2.2.2.1 0), getL, takeL, dropL, TK.isAgg, reduceIte]))
                  repeat' first | trivial | with_reducible refine And.intro ?_ ?_ | intro c9
                  all_goals exact hR _
                · clear h1
                  (cbv; try simp only [wp, (show ∀ n : Nat, _ = n from fun n => wf.2.2.2.2.2.2.2.2.2.2.2.2.2.1 (Int.ofNat n)), (show _ = (0 : Nat) from wf.2.2.2.2.2.2.2.2.2.2.2.2.2.1 0), getL, takeL, dropL, TK.isAgg, reduceIte])
                  (try (refine Later.mk ?_; cbv; try simp only [wp, (show ∀ n : Nat, _ = n from fun n => wf.2.2.2.2.2.2.2.2.2.2.2.2.2.1 (Int.ofNat n)), (show _ = (0 : Nat) from wf.2.2.2.2.2.2.2.2.2.2.2.2.2.1 0), getL, takeL, dropL, TK.isAgg, reduceIte]))
                  repeat' first | with_reducible refine And.intro ?_ ?_ | (intro c9; first | exact absurd (by (try simp only [wf, nc, nc', Int.toNat_natCast, bsz, ByteArray.size_append, List.length_cons, List.length_nil] at *); (try simp (disch := omega) only [w64, w32, wu8] at *); first | done | omega) he | skip)
                  all_goals (try (refine Later.mk ?_; cbv; try simp only [wp, (show ∀ n : Nat, _ = n from fun n => wf.2.2.2.2.2.2.2.2.2.2.2.2.2.1 (Int.ofNat n)), (show _ = (0 : Nat) from wf.2.2.2.2.2.2.2.2.2.2.2.2.2.1 0), getL, takeL, dropL, TK.isAgg, reduceIte]))
                  refine awake.call ?_
                  rintro _ rfl
                  (cbv; try simp only [wp, (show ∀ n : Nat, _ = n from fun n => wf.2.2.2.2.2.2.2.2.2.2.2.2.2.1 (Int.ofNat n)), (show _ = (0 : Nat) from wf.2.2.2.2.2.2.2.2.2.2.2.2.2.1 0), getL, takeL, dropL, TK.isAgg, reduceIte])
                  (try (refine Later.mk ?_; cbv; try simp only [wp, (show ∀ n : Nat, _ = n from fun n => wf.2.2.2.2.2.2.2.2.2.2.2.2.2.1 (Int.ofNat n)), (show _ = (0 : Nat) from wf.2.2.2.2.2.2.2.2.2.2.2.2.2.1 0), getL, takeL, dropL, TK.isAgg, reduceIte]))
                  repeat' first | trivial | with_reducible refine And.intro ?_ ?_ | intro c9
                  all_goals exact hR _


            · clear h1
              (cbv; try simp only [wp, (show ∀ n : Nat, _ = n from fun n => wf.2.2.2.2.2.2.2.2.2.2.2.2.2.1 (Int.ofNat n)), (show _ = (0 : Nat) from wf.2.2.2.2.2.2.2.2.2.2.2.2.2.1 0), getL, takeL, dropL, TK.isAgg, reduceIte])
              (try (refine Later.mk ?_; cbv; try simp only [wp, (show ∀ n : Nat, _ = n from fun n => wf.2.2.2.2.2.2.2.2.2.2.2.2.2.1 (Int.ofNat n)), (show _ = (0 : Nat) from wf.2.2.2.2.2.2.2.2.2.2.2.2.2.1 0), getL, takeL, dropL, TK.isAgg, reduceIte]))
              repeat' first | with_reducible refine And.intro ?_ ?_ | (intro c9; first | exact absurd (by (try simp only [wf, nc, nc', Int.toNat_natCast, bsz, ByteArray.size_append, List.length_cons, List.length_nil] at *); (try simp (disch := omega) only [w64, w32, wu8] at *); first | done | omega) he | skip)
              all_goals (try (refine Later.mk ?_; cbv; try simp only [wp, (show ∀ n : Nat, _ = n from fun n => wf.2.2.2.2.2.2.2.2.2.2.2.2.2.1 (Int.ofNat n)), (show _ = (0 : Nat) from wf.2.2.2.2.2.2.2.2.2.2.2.2.2.1 0), getL, takeL, dropL, TK.isAgg, reduceIte]))
              refine (Suc c n V P0 hn).call @fun r1 h1 => ?_
              rcases h1 with ⟨h1, _⟩ | ⟨_, h1⟩
              · exact absurd v1 h1
              have h1b := h1
              obtain ⟨q, _, _, c2, n2, V2, P2, e2, rfl, _⟩ := h1b
              by_cases he : e2 = 0
              · subst he
                obtain ⟨m1, m2, m3, m4⟩ := hsuc _ _ _ _ h1
                clear h1
                (cbv; try simp only [wp, (show ∀ n : Nat, _ = n from fun n => wf.2.2.2.2.2.2.2.2.2.2.2.2.2.1 (Int.ofNat n)), (show _ = (0 : Nat) from wf.2.2.2.2.2.2.2.2.2.2.2.2.2.1 0), getL, takeL, dropL, TK.isAgg, reduceIte])
                repeat' first | trivial | with_reducible refine And.intro ?_ ?_ | intro c9
                (try (refine Later.mk ?_; cbv; try simp only [wp, (show ∀ n : Nat, _ = n from fun n => wf.2.2.2.2.2.2.2.2.2.2.2.2.2.1 (Int.ofNat n)), (show _ = (0 : Nat) from wf.2.2.2.2.2.2.2.2.2.2.2.2.2.1 0), getL, takeL, dropL, TK.isAgg, reduceIte]))
                repeat' first | trivial | with_reducible refine And.intro ?_ ?_ | intro c9
                refine (Leq c c2 n n2 V P0 V2 P2 (by omega) (by omega)).call ?_
                rintro _ ⟨b, hb, rfl⟩
                obtain rfl : b = true := hb.2 (⟨v1, m2, m3⟩)
                clear hb
                (cbv; try simp only [wp, (show ∀ n : Nat, _ = n from fun n => wf.2.2.2.2.2.2.2.2.2.2.2.2.2.1 (Int.ofNat n)), (show _ = (0 : Nat) from wf.2.2.2.2.2.2.2.2.2.2.2.2.2.1 0), getL, takeL, dropL, TK.isAgg, reduceIte])
                (try (refine Later.mk ?_; cbv; try simp only [wp, (show ∀ n : Nat, _ = n from fun n => wf.2.2.2.2.2.2.2.2.2.2.2.2.2.1 (Int.ofNat n)), (show _ = (0 : Nat) from wf.2.2.2.2.2.2.2.2.2.2.2.2.2.1 0), getL, takeL, dropL, TK.isAgg, reduceIte]))
                repeat' first | trivial | with_reducible refine And.intro ?_ ?_ | intro c9
                refine (Leq c2 c n2 n V2 P2 V P0 (by omega) (by omega)).call ?_
                rintro _ ⟨b, hb, rfl⟩
                obtain rfl : b = false := (by cases b; rfl; exact absurd (hb.1 rfl).2.2 (m4))
                clear hb
                (cbv; try simp only [wp, (show ∀ n : Nat, _ = n from fun n => wf.2.2.2.2.2.2.2.2.2.2.2.2.2.1 (Int.ofNat n)), (show _ = (0 : Nat) from wf.2.2.2.2.2.2.2.2.2.2.2.2.2.1 0), getL, takeL, dropL, TK.isAgg, reduceIte])
                (try (refine Later.mk ?_; cbv; try simp only [wp, (show ∀ n : Nat, _ = n from fun n => wf.2.2.2.2.2.2.2.2.2.2.2.2.2.1 (Int.ofNat n)), (show _ = (0 : Nat) from wf.2.2.2.2.2.2.2.2.2.2.2.2.2.1 0), getL, takeL, dropL, TK.isAgg, reduceIte]))
                repeat' first | trivial | with_reducible refine And.intro ?_ ?_ | intro c9
                refine awake.call ?_
                rintro _ rfl
                (cbv; try simp only [wp, (show ∀ n : Nat, _ = n from fun n => wf.2.2.2.2.2.2.2.2.2.2.2.2.2.1 (Int.ofNat n)), (show _ = (0 : Nat) from wf.2.2.2.2.2.2.2.2.2.2.2.2.2.1 0), getL, takeL, dropL, TK.isAgg, reduceIte])
                (try (refine Later.mk ?_; cbv; try simp only [wp, (show ∀ n : Nat, _ = n from fun n => wf.2.2.2.2.2.2.2.2.2.2.2.2.2.1 (Int.ofNat n)), (show _ = (0 : Nat) from wf.2.2.2.2.2.2.2.2.2.2.2.2.2.1 0), getL, takeL, dropL, TK.isAgg, reduceIte]))
                repeat' first | trivial | with_reducible refine And.intro ?_ ?_ | intro c9
                all_goals exact hR _
              · clear h1
                (cbv; try simp only [wp, (show ∀ n : Nat, _ = n from fun n => wf.2.2.2.2.2.2.2.2.2.2.2.2.2.1 (Int.ofNat n)), (show _ = (0 : Nat) from wf.2.2.2.2.2.2.2.2.2.2.2.2.2.1 0), getL, takeL, dropL, TK.isAgg, reduceIte])
                (try (refine Later.mk ?_; cbv; try simp only [wp, (show ∀ n : Nat, _ = n from fun n => wf.2.2.2.2.2.2.2.2.2.2.2.2.2.1 (Int.ofNat n)), (show _ = (0 : Nat) from wf.2.2.2.2.2.2.2.2.2.2.2.2.2.1 0), getL, takeL, dropL, TK.isAgg, reduceIte]))
                repeat' first | with_reducible refine And.intro ?_ ?_ | (intro c9; first | exact absurd (by (try simp only [wf, nc, nc', Int.toNat_natCast, bsz, ByteArray.size_append, List.length_cons, List.length_nil] at *); (try simp (disch := omega) only [w64, w32, wu8] at *); first | done | omega) he | skip)
                all_goals (try (refine Later.mk ?_; cbv; try simp only [wp, (show ∀ n : Nat, _ = n from fun n => wf.2.2.2.2.2.2.2.2.2.2.2.2.2.1 (Int.ofNat n)), (show _ = (0 : Nat) from wf.2.2.2.2.2.2.2.2.2.2.2.2.2.1 0), getL, takeL, dropL, TK.isAgg, reduceIte]))
                refine awake.call ?_
                rintro _ rfl
                (cbv; try simp only [wp, (show ∀ n : Nat, _ = n from fun n => wf.2.2.2.2.2.2.2.2.2.2.2.2.2.1 (Int.ofNat n)), (show _ = (0 : Nat) from wf.2.2.2.2.2.2.2.2.2.2.2.2.2.1 0), getL, takeL, dropL, TK.isAgg, reduceIte])
                (try (refine Later.mk ?_; cbv; try simp only [wp, (show ∀ n : Nat, _ = n from fun n => wf.2.2.2.2.2.2.2.2.2.2.2.2.2.1 (Int.ofNat n)), (show _ = (0 : Nat) from wf.2.2.2.2.2.2.2.2.2.2.2.2.2.1 0), getL, takeL, dropL, TK.isAgg, reduceIte]))
                repeat' first | trivial | with_reducible refine And.intro ?_ ?_ | intro c9
                all_goals exact hR _



        · (try (refine Later.mk ?_; cbv; try simp only [wp, (show ∀ n : Nat, _ = n from fun n => wf.2.2.2.2.2.2.2.2.2.2.2.2.2.1 (Int.ofNat n)), (show _ = (0 : Nat) from wf.2.2.2.2.2.2.2.2.2.2.2.2.2.1 0), getL, takeL, dropL, TK.isAgg, reduceIte]))
          repeat' first | trivial | with_reducible refine And.intro ?_ ?_ | intro c9
          refine (Max c c' n n' V P0 V' P' hn hn').call @fun r1 h1 => ?_
          rcases h1 with ⟨h1, _⟩ | ⟨_, h1⟩
          · exact absurd ⟨v1, v2⟩ h1
          have h1b := h1
          obtain ⟨q, _, _, c1, n1, V1, P1, e1, rfl, _⟩ := h1b
          by_cases he : e1 = 0
          · subst he
            obtain ⟨k1, k2, k3, k4, k5⟩ := hmax _ _ _ _ h1
            clear h1
            (cbv; try simp only [wp, (show ∀ n : Nat, _ = n from fun n => wf.2.2.2.2.2.2.2.2.2.2.2.2.2.1 (Int.ofNat n)), (show _ = (0 : Nat) from wf.2.2.2.2.2.2.2.2.2.2.2.2.2.1 0), getL, takeL, dropL, TK.isAgg, reduceIte])
            repeat' first | trivial | with_reducible refine And.intro ?_ ?_ | intro c9
            (try (refine Later.mk ?_; cbv; try simp only [wp, (show ∀ n : Nat, _ = n from fun n => wf.2.2.2.2.2.2.2.2.2.2.2.2.2.1 (Int.ofNat n)), (show _ = (0 : Nat) from wf.2.2.2.2.2.2.2.2.2.2.2.2.2.1 0), getL, takeL, dropL, TK.isAgg, reduceIte]))
            repeat' first | trivial | with_reducible refine And.intro ?_ ?_ | intro c9
            refine (Leq c c1 n n1 V P0 V1 P1 (by omega) (by omega)).call ?_
            rintro _ ⟨b, hb, rfl⟩
            obtain rfl : b = true := hb.2 (⟨v1, k2, k3⟩)
            clear hb
            (cbv; try simp only [wp, (show ∀ n : Nat, _ = n from fun n => wf.2.2.2.2.2.2.2.2.2.2.2.2.2.1 (Int.ofNat n)), (show _ = (0 : Nat) from wf.2.2.2.2.2.2.2.2.2.2.2.2.2.1 0), getL, takeL, dropL, TK.isAgg, reduceIte])
            (try (refine Later.mk ?_; cbv; try simp only [wp, (show ∀ n : Nat, _ = n from fun n => wf.2.2.2.2.2.2.2.2.2.2.2.2.2.1 (Int.ofNat n)), (show _ = (0 : Nat) from wf.2.2.2.2.2.2.2.2.2.2.2.2.2.1 0), getL, takeL, dropL, TK.isAgg, reduceIte]))
            repeat' first | trivial | with_reducible refine And.intro ?_ ?_ | intro c9
            refine (Leq c' c1 n' n1 V' P' V1 P1 (by omega) (by omega)).call ?_
            rintro _ ⟨b, hb, rfl⟩
            obtain rfl : b = true := hb.2 (⟨v2, k2, k4⟩)
            clear hb
            (cbv; try simp only [wp, (show ∀ n : Nat, _ = n from fun n => wf.2.2.2.2.2.2.2.2.2.2.2.2.2.1 (Int.ofNat n)), (show _ = (0 : Nat) from wf.2.2.2.2.2.2.2.2.2.2.2.2.2.1 0), getL, takeL, dropL, TK.isAgg, reduceIte])
            (try (refine Later.mk ?_; cbv; try simp only [wp, (show ∀ n : Nat, _ = n from fun n => wf.2.2.2.2.2.2.2.2.2.2.2.2.2.1 (Int.ofNat n)), (show _ = (0 : Nat) from wf.2.2.2.2.2.2.2.2.2.2.2.2.2.1 0), getL, takeL, dropL, TK.isAgg, reduceIte]))
            repeat' first | trivial | with_reducible refine And.intro ?_ ?_ | intro c9
            refine (Leq c c'' n n'' V P0 V'' P'' (by omega) (by omega)).call ?_
            rintro _ ⟨b, hb, rfl⟩
            rcases hb.dich with ⟨rfl, -, -, w3⟩ | ⟨rfl, w3⟩ <;> clear hb <;> (cbv; try simp only [wp, (show ∀ n : Nat, _ = n from fun n => wf.2.2.2.2.2.2.2.2.2.2.2.2.2.1 (Int.ofNat n)), (show _ = (0 : Nat) from wf.2.2.2.2.2.2.2.2.2.2.2.2.2.1 0), getL, takeL, dropL, TK.isAgg, reduceIte])
            · (try (refine Later.mk ?_; cbv; try simp only [wp, (show ∀ n : Nat, _ = n from fun n => wf.2.2.2.2.2.2.2.2.2.2.2.2.2.1 (Int.ofNat n)), (show _ = (0 : Nat) from wf.2.2.2.2.2.2.2.2.2.2.2.2.2.1 0), getL, takeL, dropL, TK.isAgg, reduceIte]))
              repeat' first | trivial | with_reducible refine And.intro ?_ ?_ | intro c9
              refine (Leq c' c'' n' n'' V' P' V'' P'' (by omega) (by omega)).call ?_
              rintro _ ⟨b, hb, rfl⟩
              rcases hb.dich with ⟨rfl, -, -, w4⟩ | ⟨rfl, w4⟩ <;> clear hb <;> (cbv; try simp only [wp, (show ∀ n : Nat, _ = n from fun n => wf.2.2.2.2.2.2.2.2.2.2.2.2.2.1 (Int.ofNat n)), (show _ = (0 : Nat) from wf.2.2.2.2.2.2.2.2.2.2.2.2.2.1 0), getL, takeL, dropL, TK.isAgg, reduceIte])
              · (try (refine Later.mk ?_; cbv; try simp only [wp, (show ∀ n : Nat, _ = n from fun n => wf.2.2.2.2.2.2.2.2.2.2.2.2.2.1 (Int.ofNat n)), (show _ = (0 : Nat) from wf.2.2.2.2.2.2.2.2.2.2.2.2.2.1 0), getL, takeL, dropL, TK.isAgg, reduceIte]))
                repeat' first | trivial | with_reducible refine And.intro ?_ ?_ | intro c9
                refine (Leq c1 c'' n1 n'' V1 P1 V'' P'' (by omega) (by omega)).call ?_
                rintro _ ⟨b, hb, rfl⟩
                obtain rfl : b = true := hb.2 (⟨k2, v3, k5 w3 w4⟩)
                clear hb
                (cbv; try simp only [wp, (show ∀ n : Nat, _ = n from fun n => wf.2.2.2.2.2.2.2.2.2.2.2.2.2.1 (Int.ofNat n)), (show _ = (0 : Nat) from wf.2.2.2.2.2.2.2.2.2.2.2.2.2.1 0), getL, takeL, dropL, TK.isAgg, reduceIte])
                (try (refine Later.mk ?_; cbv; try simp only [wp, (show ∀ n : Nat, _ = n from fun n => wf.2.2.2.2.2.2.2.2.2.2.2.2.2.1 (Int.ofNat n)), (show _ = (0 : Nat) from wf.2.2.2.2.2.2.2.2.2.2.2.2.2.1 0), getL, takeL, dropL, TK.isAgg, reduceIte]))
                repeat' first | trivial | with_reducible refine And.intro ?_ ?_ | intro c9
                refine (Suc c n V P0 hn).call @fun r1 h1 => ?_
                rcases h1 with ⟨h1, _⟩ | ⟨_, h1⟩
                · exact absurd v1 h1
                have h1b := h1
                obtain ⟨q, _, _, c2, n2, V2, P2, e2, rfl, _⟩ := h1b
                by_cases he : e2 = 0
                · subst he
                  obtain ⟨m1, m2, m3, m4⟩ := hsuc _ _ _ _ h1
                  clear h1
                  (cbv; try simp only [wp, (show ∀ n : Nat, _ = n from fun n => wf.2.2.2.2.2.2.2.2.2.2.2.2.2.1 (Int.ofNat n)), (show _ = (0 : Nat) from wf.2.2.2.2.2.2.2.2.2.2.2.2.2.1 0), getL, takeL, dropL, TK.isAgg, reduceIte])
                  repeat' first | trivial | with_reducible refine And.intro ?_ ?_ | intro c9
                  (try (refine Later.mk ?_; cbv; try simp only [wp, (show ∀ n : Nat, _ = n from fun n => wf.2.2.2.2.2.2.2.2.2.2.2.2.2.1 (Int.ofNat n)), (show _ = (0 : Nat) from wf.2.2.2.2.2.2.2.2.2.2.2.2.2.1 0), getL, takeL, dropL, TK.isAgg, reduceIte]))
                  repeat' first | trivial | with_reducible refine And.intro ?_ ?_ | intro c9
                  refine (Leq c c2 n n2 V P0 V2 P2 (by omega) (by omega)).call ?_
                  rintro _ ⟨b, hb, rfl⟩
                  obtain rfl : b = true := hb.2 (⟨v1, m2, m3⟩)
                  clear hb
                  (cbv; try simp only [wp, (show ∀ n : Nat, _ = n from fun n => wf.2.2.2.2.2.2.2.2.2.2.2.2.2.1 (Int.ofNat n)), (show _ = (0 : Nat) from wf.2.2.2.2.2.2.2.2.2.2.2.2.2.1 0), getL, takeL, dropL, TK.isAgg, reduceIte])
                  (try (refine Later.mk ?_; cbv; try simp only [wp, (show ∀ n : Nat, _ = n from fun n => wf.2.2.2.2.2.2.2.2.2.2.2.2.2.1 (Int.ofNat n)), (show _ = (0 : Nat) from wf.2.2.2.2.2.2.2.2.2.2.2.2.2.1 0), getL, takeL, dropL, TK.isAgg, reduceIte]))
                  repeat' first | trivial | with_reducible refine And.intro ?_ ?_ | intro c9
                  refine (Leq c2 c n2 n V2 P2 V P0 (by omega) (by omega)).call ?_
                  rintro _ ⟨b, hb, rfl⟩
                  obtain rfl : b = false := (by cases b; rfl; exact absurd (hb.1 rfl).2.2 (m4))
                  clear hb
                  (cbv; try simp only [wp, (show ∀ n : Nat, _ = n from fun n => wf.2.2.2.2.2.2.2.2.2.2.2.2.2.1 (Int.ofNat n)), (show _ = (0 : Nat) from wf.2.2.2.2.2.2.2.2.2.2.2.2.2.1 0), getL, takeL, dropL, TK.isAgg, reduceIte])
                  (try (refine Later.mk ?_; cbv; try simp only [wp, (show ∀ n : Nat, _ = n from fun n => wf.2.2.2.2.2.2.2.2.2.2.2.2.2.1 (Int.ofNat n)), (show _ = (0 : Nat) from wf.2.2.2.2.2.2.2.2.2.2.2.2.2.1 0), getL, takeL, dropL, TK.isAgg, reduceIte]))
                  repeat' first | trivial | with_reducible refine And.intro ?_ ?_ | intro c9
                  refine awake.call ?_
                  rintro _ rfl
                  (cbv; try simp only [wp, (show ∀ n : Nat, _ = n from fun n => wf.2.2.2.2.2.2.2.2.2.2.2.2.2.1 (Int.ofNat n)), (show _ = (0 : Nat) from wf.2.2.2.2.2.2.2.2.2.2.2.2.2.1 0), getL, takeL, dropL, TK.isAgg, reduceIte])
                  (try (refine Later.mk ?_; cbv; try simp only [wp, (show ∀ n : Nat, _ = n from fun n => wf.2.2.2.2.2.2.2.2.2.2.2.2.2.1 (Int.ofNat n)), (show _ = (0 : Nat) from wf.2.2.2.2.2.2.2.2.2.2.2.2.2.1 0), getL, takeL, dropL, TK.isAgg, reduceIte]))
                  repeat' first | trivial | with_reducible refine And.intro ?_ ?_ | intro c9
                  all_goals exact hR _
                · clear h1
                  (cbv; try simp only [wp, (show ∀ n : Nat, _ = n from fun n => wf.2.2.2.2.2.2.2.2.2.2.2.2.2.1 (Int.ofNat n)), (show _ = (0 : Nat) from wf.2.2.2.2.2.2.2.2.2.2.2.2.2.1 0), getL, takeL, dropL, TK.isAgg, reduceIte])
                  (try (refine Later.mk ?_; cbv; try simp only [wp, (show ∀ n : Nat, _ = n from fun n => wf.2.2.2.2.2.2.2.2.2.2.2.2.2.1 (Int.ofNat n)), (show _ = (0 : Nat) from wf.2.2.2.2.2.2.2.2.2.2.2.2.2.1 0), getL, takeL, dropL, TK.isAgg, reduceIte]))
                  repeat' first | with_reducible refine And.intro ?_ ?_ | (intro c9; first | exact absurd (by (try simp only [wf, nc, nc', Int.toNat_natCast, bsz, ByteArray.size_append, List.length_cons, List.length_nil] at *); (try simp (disch := omega) only [w64, w32, wu8] at *); first | done | omega) he | skip)
                  all_goals (try (refine Later.mk ?_; cbv; try simp only [wp, (show ∀ n : Nat, _ = n from fun n => wf.2.2.2.2.2.2.2.2.2.2.2.2.2.1 (Int.ofNat n)), (show _ = (0 : Nat) from wf.2.2.2.2.2.2.2.2.2.2.2.2.2.1 0), getL, takeL, dropL, TK.isAgg, reduceIte]))
                  refine awake.call ?_
                  rintro _ rfl
                  (cbv; try simp only [wp, (show ∀ n : Nat, _ = n from fun n => wf.2.2.2.2.2.2.2.2.2.2.2.2.2.1 (Int.ofNat n)), (show _ = (0 : Nat) from wf.2.2.2.2.2.2.2.2.2.2.2.2.2.1 0), getL, takeL, dropL, TK.isAgg, reduceIte])
                  (try (refine Later.mk ?_; cbv; try simp only [wp, (show ∀ n : Nat, _ = n from fun n => wf.2.2.2.2.2.2.2.2.2.2.2.2.2.1 (Int.ofNat n)), (show _ = (0 : Nat) from wf.2.2.2.2.2.2.2.2.2.2.2.2.2.1 0), getL, takeL, dropL, TK.isAgg, reduceIte]))
                  repeat' first | trivial | with_reducible refine And.intro ?_ ?_ | intro c9
                  all_goals exact hR _

              · (try (refine Later.mk ?_; cbv; try simp only [wp, (show ∀ n : Nat, _ = n from fun n => wf.2.2.2.2.2.2.2.2.2.2.2.2.2.1 (Int.ofNat n)), (show _ = (0 : Nat) from wf.2.2.2.2.2.2.2.2.2.2.2.2.2.1 0), getL, takeL, dropL, TK.isAgg, reduceIte]))
                repeat' first | trivial | with_reducible refine And.intro ?_ ?_ | intro c9
                refine (Suc c n V P0 hn).call @fun r1 h1 => ?_
                rcases h1 with ⟨h1, _⟩ | ⟨_, h1⟩
                · exact absurd v1 h1
                have h1b := h1
                obtain ⟨q, _, _, c2, n2, V2, P2, e2, rfl, _⟩ := h1b
                by_cases he : e2 = 0
                · subst he
                  obtain ⟨m1, m2, m3, m4⟩ := hsuc _ _ _ _ h1
                  clear h1
                  (cbv; try simp only [wp, (show ∀ n : Nat, _ = n from fun n => wf.2.2.2.2.2.2.2.2.2.2.2.2.2.1 (Int.ofNat n)), (show _ = (0 : Nat) from wf.2.2.2.2.2.2.2.2.2.2.2.2.2.1 0), getL, takeL, dropL, TK.isAgg, reduceIte])
                  repeat' first | trivial | with_reducible refine And.intro ?_ ?_ | intro c9
                  (try (refine Later.mk ?_; cbv; try simp only [wp, (show ∀ n : Nat, _ = n from fun n => wf.2.2.2.2.2.2.2.2.2.2.2.2.2.1 (Int.ofNat n)), (show _ = (0 : Nat) from wf.2.2.2.2.2.2.2.2.2.2.2.2.2.1 0), getL, takeL, dropL, TK.isAgg, reduceIte]))
                  repeat' first | trivial | with_reducible refine And.intro ?_ ?_ | intro c9
                  refine (Leq c c2 n n2 V P0 V2 P2 (by omega) (by omega)).call ?_
                  rintro _ ⟨b, hb, rfl⟩
                  obtain rfl : b = true := hb.2 (⟨v1, m2, m3⟩)
                  clear hb
                  (cbv; try simp only [wp, (show ∀ n : Nat, _ = n from fun n => wf.2.2.2.2.2.2.2.2.2.2.2.2.2.1 (Int.ofNat n)), (show _ = (0 : Nat) from wf.2.2.2.2.2.2.2.2.2.2.2.2.2.1 0), getL, takeL, dropL, TK.isAgg, reduceIte])
                  (try (refine Later.mk ?_; cbv; try simp only [wp, (show ∀ n : Nat, _ = n from fun n => wf.2.2.2.2.2.2.2.2.2.2.2.2.2.1 (Int.ofNat n)), (show _ = (0 : Nat) from wf.2.2.2.2.2.2.2.2.2.2.2.2.2.1 0), getL, takeL, dropL, TK.isAgg, reduceIte]))
                  repeat' first | trivial | with_reducible refine And.intro ?_ ?_ | intro c9
                  refine (Leq c2 c n2 n V2 P2 V P0 (by omega) (by omega)).call ?_
                  rintro _ ⟨b, hb, rfl⟩
                  obtain rfl : b = false := (by cases b; rfl; exact absurd (hb.1 rfl).2.2 (m4))
                  clear hb
                  (cbv; try simp only [wp, (show ∀ n : Nat, _ = n from fun n => wf.2.2.2.2.2.2.2.2.2.2.2.2.2.1 (Int.ofNat n)), (show _ = (0 : Nat) from wf.2.2.2.2.2.2.2.2.2.2.2.2.2.1 0), getL, takeL, dropL, TK.isAgg, reduceIte])
                  (try (refine Later.mk ?_; cbv; try simp only [wp, (show ∀ n : Nat, _ = n from fun n => wf.2.2.2.2.2.2.2.2.2.2.2.2.2.1 (Int.ofNat n)), (show _ = (0 : Nat) from wf.2.2.2.2.2.2.2.2.2.2.2.2.2.1 0), getL, takeL, dropL, TK.isAgg, reduceIte]))
                  repeat' first | trivial | with_reducible refine And.intro ?_ ?_ | intro c9
                  refine awake.call ?_
                  rintro _ rfl
                  (cbv; try simp only [wp, (show ∀ n : Nat, _ = n from fun n => wf.2.2.2.2.2.2.2.2.2.2.2.2.2.1 (Int.ofNat n)), (show _ = (0 : Nat) from wf.2.2.2.2.2.2.2.2.2.2.2.2.2.1 0), getL, takeL, dropL, TK.isAgg, reduceIte])
                  (try (refine Later.mk ?_; cbv; try simp only [wp, (show ∀ n : Nat, _ = n from fun n => wf.2.2.2.2.2.2.2.2.2.2.2.2.2.1 (Int.ofNat n)), (show _ = (0 : Nat) from wf.2.2.2.2.2.2.2.2.2.2.2.2.2.1 0), getL, takeL, dropL, TK.isAgg, reduceIte]))
                  repeat' first | trivial | with_reducible refine And.intro ?_ ?_ | intro c9
                  all_goals exact hR _
                · clear h1
                  (cbv; try simp only [wp, (show ∀ n : Nat, _ = n from fun n => wf.2.2.2.2.2.2.2.2.2.2.2.2.2.1 (Int.ofNat n)), (show _ = (0 : Nat) from wf.2.2.2.2.2.2.2.2.2.2.2.2.2.1 0), getL, takeL, dropL, TK.isAgg, reduceIte])
                  (try (refine Later.mk ?_; cbv; try simp only [wp, (show ∀ n : Nat, _ = n from fun n => wf.2.2.2.2.2.2.2.2.2.2.2.2.2.1 (Int.ofNat n)), (show _ = (0 : Nat) from wf.2.2.2.2.2.2.2.2.2.2.2.2.2.1 0), getL, takeL, dropL, TK.isAgg, reduceIte]))
                  repeat' first | with_reducible refine And.intro ?_ ?_ | (intro c9; first | exact absurd (by (try simp only [wf, nc, nc', Int.toNat_natCast, bsz, ByteArray.size_append, List.length_cons, List.length_nil] at *); (try simp (disch := omega) only [w64, w32, wu8] at *); first | done | omega) he | skip)
                  all_goals (try (refine Later.mk ?_; cbv; try simp only [wp, (show ∀ n : Nat, _ = n from fun n => wf.2.2.2.2.2.2.2.2.2.2.2.2.2.1 (Int.ofNat n)), (show _ = (0 : Nat) from wf.2.2.2.2.2.2.2.2.2.2.2.2.2.1 0), getL, takeL, dropL, TK.isAgg, reduceIte]))
                  refine awake.call ?_
                  rintro _ rfl
                  (cbv; try simp only [wp, (show ∀ n : Nat, _ = n from fun n => wf.2.2.2.2.2.2.2.2.2.2.2.2.2.1 (Int.ofNat n)), (show _ = (0 : Nat) from wf.2.2.2.2.2.2.2.2.2.2.2.2.2.1 0), getL, takeL, dropL, TK.isAgg, reduceIte])
                  (try (refine Later.mk ?_; cbv; try simp only [wp, (show ∀ n : Nat, _ = n from fun n => wf.2.2.2.2.2.2.2.2.2.2.2.2.2.1 (Int.ofNat n)), (show _ = (0 : Nat) from wf.2.2.2.2.2.2.2.2.2.2.2.2.2.1 0), getL, takeL, dropL, TK.isAgg, reduceIte]))
                  repeat' first | trivial | with_reducible refine And.intro ?_ ?_ | intro c9
                  all_goals exact hR _


            · (try (refine Later.mk ?_; cbv; try simp only [wp, (show ∀ n : Nat, _ = n from fun n => wf.2.2.2.2.2.2.2.2.2.2.2.2.2.1 (Int.ofNat n)), (show _ = (0 : Nat) from wf.2.2.2.2.2.2.2.2.2.2.2.2.2.1 0), getL, takeL, dropL, TK.isAgg, reduceIte]))
              repeat' first | trivial | with_reducible refine And.intro ?_ ?_ | intro c9
              refine (Suc c n V P0 hn).call @fun r1 h1 => ?_
              rcases h1 with ⟨h1, _⟩ | ⟨_, h1⟩
              · exact absurd v1 h1
              have h1b := h1
              obtain ⟨q, _, _, c2, n2, V2, P2, e2, rfl, _⟩ := h1b
              by_cases he : e2 = 0
              · subst he
                obtain ⟨m1, m2, m3, m4⟩ := hsuc _ _ _ _ h1
                clear h1
                (cbv; try simp only [wp, (show ∀ n : Nat, _ = n from fun n => wf.2.2.2.2.2.2.2.2.2.2.2.2.2.1 (Int.ofNat n)), (show _ = (0 : Nat) from wf.2.2.2.2.2.2.2.2.2.2.2.2.2.1 0), getL, takeL, dropL, TK.isAgg, reduceIte])
                repeat' first | trivial | with_reducible refine And.intro ?_ ?_ | intro c9
                (try (refine Later.mk ?_; cbv; try simp only [wp, (show ∀ n : Nat, _ = n from fun n => wf.2.2.2.2.2.2.2.2.2.2.2.2.2.1 (Int.ofNat n)), (show _ = (0 : Nat) from wf.2.2.2.2.2.2.2.2.2.2.2.2.2.1 0), getL, takeL, dropL, TK.isAgg, reduceIte]))
                repeat' first | trivial | with_reducible refine And.intro ?_ ?_ | intro c9
                refine (Leq c c2 n n2 V P0 V2 P2 (by omega) (by omega)).call ?_
                rintro _ ⟨b, hb, rfl⟩
                obtain rfl : b = true := hb.2 (⟨v1, m2, m3⟩)
                clear hb
                (cbv; try simp only [wp, (show ∀ n : Nat, _ = n from fun n => wf.2.2.2.2.2.2.2.2.2.2.2.2.2.1 (Int.ofNat n)), (show _ = (0 : Nat) from wf.2.2.2.2.2.2.2.2.2.2.2.2.2.1 0), getL, takeL, dropL, TK.isAgg, reduceIte])
                (try (refine Later.mk ?_; cbv; try simp only [wp, (show ∀ n : Nat, _ = n from fun n => wf.2.2.2.2.2.2.2.2.2.2.2.2.2.1 (Int.ofNat n)), (show _ = (0 : Nat) from wf.2.2.2.2.2.2.2.2.2.2.2.2.2.1 0), getL, takeL, dropL, TK.isAgg, reduceIte]))
                repeat' first | trivial | with_reducible refine And.intro ?_ ?_ | intro c9
                refine (Leq c2 c n2 n V2 P2 V P0 (by omega) (by omega)).call ?_
                rintro _ ⟨b, hb, rfl⟩
                obtain rfl : b = false := (by cases b; rfl; exact absurd (hb.1 rfl).2.2 (m4))
                clear hb
                (cbv; try simp only [wp, (show ∀ n : Nat, _ = n from fun n => wf.2.2.2.2.2.2.2.2.2.2.2.2.2.1 (Int.ofNat n)), (show _ = (0 : Nat) from wf.2.2.2.2.2.2.2.2.2.2.2.2.2.1 0), getL, takeL, dropL, TK.isAgg, reduceIte])
                (try (refine Later.mk ?_; cbv; try simp only [wp, (show ∀ n : Nat, _ = n from fun n => wf.2.2.2.2.2.2.2.2.2.2.2.2.2.1 (Int.ofNat n)), (show _ = (0 : Nat) from wf.2.2.2.2.2.2.2.2.2.2.2.2.2.1 0), getL, takeL, dropL, TK.isAgg, reduceIte]))
                repeat' first | trivial | with_reducible refine And.intro ?_ ?_ | intro c9
                refine awake.call ?_
                rintro _ rfl
                (cbv; try simp only [wp, (show ∀ n : Nat, _ = n from fun n => wf.2.2.2.2.2.2.2.2.2.2.2.2.2.1 (Int.ofNat n)), (show _ = (0 : Nat) from wf.2.2.2.2.2.2.2.2.2.2.2.2.2.1 0), getL, takeL, dropL, TK.isAgg, reduceIte])
                (try (refine Later.mk ?_; cbv; try simp only [wp, (show ∀ n : Nat, _ = n from fun n => wf.2.2.2.2.2.2.2.2.2.2.2.2.2.1 (Int.ofNat n)), (show _ = (0 : Nat) from wf.2.2.2.2.2.2.2.2.2.2.2.2.2.1 0), getL, takeL, dropL, TK.isAgg, reduceIte]))
                repeat' first | trivial | with_reducible refine And.intro ?_ ?_ | intro c9
                all_goals exact hR _
              · clear h1
                (cbv; try simp only [wp, (show ∀ n : Nat, _ = n from fun n => wf.2.2.2.2.2.2.2.2.2.2.2.2.2.1 (Int.ofNat n)), (show _ = (0 : Nat) from wf.2.2.2.2.2.2.2.2.2.2.2.2.2.1 0), getL, takeL, dropL, TK.isAgg, reduceIte])
                (try (refine Later.mk ?_; cbv; try simp only [wp, (show ∀ n : Nat, _ = n from fun n => wf.2.2.2.2.2.2.2.2.2.2.2.2.2.1 (Int.ofNat n)), (show _ = (0 : Nat) from wf.2.2.2.2.2.2.2.2.2.2.2.2.2.1 0), getL, takeL, dropL, TK.isAgg, reduceIte]))
                repeat' first | with_reducible refine And.intro ?_ ?_ | (intro c9; first | exact absurd (by (try simp only [wf, nc, nc', Int.toNat_natCast, bsz, ByteArray.size_append, List.length_cons, List.length_nil] at *); (try simp (disch := omega) only [w64, w32, wu8] at *); first | done | omega) he | skip)
                all_goals (try (refine Later.mk ?_; cbv; try simp only [wp, (show ∀ n : Nat, _ = n from fun n => wf.2.2.2.2.2.2.2.2.2.2.2.2.2.1 (Int.ofNat n)), (show _ = (0 : Nat) from wf.2.2.2.2.2.2.2.2.2.2.2.2.2.1 0), getL, takeL, dropL, TK.isAgg, reduceIte]))
                refine awake.call ?_
                rintro _ rfl
                (cbv; try simp only [wp, (show ∀ n : Nat, _ = n from fun n => wf.2.2.2.2.2.2.2.2.2.2.2.2.2.1 (Int.ofNat n)), (show _ = (0 : Nat) from wf.2.2.2.2.2.2.2.2.2.2.2.2.2.1 0), getL, takeL, dropL, TK.isAgg, reduceIte])
                (try (refine Later.mk ?_; cbv; try simp only [wp, (show ∀ n : Nat, _ = n from fun n => wf.2.2.2.2.2.2.2.2.2.2.2.2.2.1 (Int.ofNat n)), (show _ = (0 : Nat) from wf.2.2.2.2.2.2.2.2.2.2.2.2.2.1 0), getL, takeL, dropL, TK.isAgg, reduceIte]))
                repeat' first | trivial | with_reducible refine And.intro ?_ ?_ | intro c9
                all_goals exact hR _


          · clear h1
            (cbv; try simp only [wp, (show ∀ n : Nat, _ = n from fun n => wf.2.2.2.2.2.2.2.2.2.2.2.2.2.1 (Int.ofNat n)), (show _ = (0 : Nat) from wf.2.2.2.2.2.2.2.2.2.2.2.2.2.1 0), getL, takeL, dropL, TK.isAgg, reduceIte])
            (try (refine Later.mk ?_; cbv; try simp only [wp, (show ∀ n : Nat, _ = n from fun n => wf.2.2.2.2.2.2.2.2.2.2.2.2.2.1 (Int.ofNat n)), (show _ = (0 : Nat) from wf.2.2.2.2.2.2.2.2.2.2.2.2.2.1 0), getL, takeL, dropL, TK.isAgg, reduceIte]))
            repeat' first | with_reducible refine And.intro ?_ ?_ | (intro c9; first | exact absurd (by (try simp only [wf, nc, nc', Int.toNat_natCast, bsz, ByteArray.size_append, List.length_cons, List.length_nil] at *); (try simp (disch := omega) only [w64, w32, wu8] at *); first | done | omega) he | skip)
            all_goals (try (refine Later.mk ?_; cbv; try simp only [wp, (show ∀ n : Nat, _ = n from fun n => wf.2.2.2.2.2.2.2.2.2.2.2.2.2.1 (Int.ofNat n)), (show _ = (0 : Nat) from wf.2.2.2.2.2.2.2.2.2.2.2.2.2.1 0), getL, takeL, dropL, TK.isAgg, reduceIte]))
            refine (Suc c n V P0 hn).call @fun r1 h1 => ?_
            rcases h1 with ⟨h1, _⟩ | ⟨_, h1⟩
            · exact absurd v1 h1
            have h1b := h1
            obtain ⟨q, _, _, c2, n2, V2, P2, e2, rfl, _⟩ := h1b
            by_cases he : e2 = 0
            · subst he
              obtain ⟨m1, m2, m3, m4⟩ := hsuc _ _ _ _ h1
              clear h1
              (cbv; try simp only [wp, (show ∀ n : Nat, _ = n from fun n => wf.2.2.2.2.2.2.2.2.2.2.2.2.2.1 (Int.ofNat n)), (show _ = (0 : Nat) from wf.2.2.2.2.2.2.2.2.2.2.2.2.2.1 0), getL, takeL, dropL, TK.isAgg, reduceIte])
              repeat' first | trivial | with_reducible refine And.intro ?_ ?_ | intro c9
              (try (refine Later.mk ?_; cbv; try simp only [wp, (show ∀ n : Nat, _ = n from fun n => wf.2.2.2.2.2.2.2.2.2.2.2.2.2.1 (Int.ofNat n)), (show _ = (0 : Nat) from wf.2.2.2.2.2.2.2.2.2.2.2.2.2.1 0), getL, takeL, dropL, TK.isAgg, reduceIte]))
              repeat' first | trivial | with_reducible refine And.intro ?_ ?_ | intro c9
              refine (Leq c c2 n n2 V P0 V2 P2 (by omega) (by omega)).call ?_
              rintro _ ⟨b, hb, rfl⟩
              obtain rfl : b = true := hb.2 (⟨v1, m2, m3⟩)
              clear hb
              (cbv; try simp only [wp, (show ∀ n : Nat, _ = n from fun n => wf.2.2.2.2.2.2.2.2.2.2.2.2.2.1 (Int.ofNat n)), (show _ = (0 : Nat) from wf.2.2.2.2.2.2.2.2.2.2.2.2.2.1 0), getL, takeL, dropL, TK.isAgg, reduceIte])
              (try (refine Later.mk ?_; cbv; try simp only [wp, (show ∀ n : Nat, _ = n from fun n => wf.2.2.2.2.2.2.2.2.2.2.2.2.2.1 (Int.ofNat n)), (show _ = (0 : Nat) from wf.2.2.2.2.2.2.2.2.2.2.2.2.2.1 0), getL, takeL, dropL, TK.isAgg, reduceIte]))
              repeat' first | trivial | with_reducible refine And.intro ?_ ?_ | intro c9
              refine (Leq c2 c n2 n V2 P2 V P0 (by omega) (by omega)).call ?_
              rintro _ ⟨b, hb, rfl⟩
              obtain rfl : b = false := (by cases b; rfl; exact absurd (hb.1 rfl).2.2 (m4))
              clear hb
              (cbv; try simp only [wp, (show ∀ n : Nat, _ = n from fun n => wf.2.2.2.2.2.2.2.2.2.2.2.2.2.1 (Int.ofNat n)), (show _ = (0 : Nat) from wf.2.2.2.2.2.2.2.2.2.2.2.2.2.1 0), getL, takeL, dropL, TK.isAgg, reduceIte])
              (try (refine Later.mk ?_; cbv; try simp only [wp, (show ∀ n : Nat, _ = n from fun n => wf.2.2.2.2.2.2.2.2.2.2.2.2.2.1 (Int.ofNat n)), (show _ = (0 : Nat) from wf.2.2.2.2.2.2.2.2.2.2.2.2.2.1 0), getL, takeL, dropL, TK.isAgg, reduceIte]))
              repeat' first | trivial | with_reducible refine And.intro ?_ ?_ | intro c9
              refine awake.call ?_
              rintro _ rfl
              (cbv; try simp only [wp, (show ∀ n : Nat, _ = n from fun n => wf.2.2.2.2.2.2.2.2.2.2.2.2.2.1 (Int.ofNat n)), (show _ = (0 : Nat) from wf.2.2.2.2.2.2.2.2.2.2.2.2.2.1 0), getL, takeL, dropL, TK.isAgg, reduceIte])
              (try (refine Later.mk ?_; cbv; try simp only [wp, (show ∀ n : Nat, _ = n from fun n => wf.2.2.2.2.2.2.2.2.2.2.2.2.2.1 (Int.ofNat n)), (show _ = (0 : Nat) from wf.2.2.2.2.2.2.2.2.2.2.2.2.2.1 0), getL, takeL, dropL, TK.isAgg, reduceIte]))
              repeat' first | trivial | with_reducible refine And.intro ?_ ?_ | intro c9
              all_goals exact hR _
            · clear h1
              (cbv; try simp only [wp, (show ∀ n : Nat, _ = n from fun n => wf.2.2.2.2.2.2.2.2.2.2.2.2.2.1 (Int.ofNat n)), (show _ = (0 : Nat) from wf.2.2.2.2.2.2.2.2.2.2.2.2.2.1 0), getL, takeL, dropL, TK.isAgg, reduceIte])
              (try (refine Later.mk ?_; cbv; try simp only [wp, (show ∀ n : Nat, _ = n from fun n => wf.2.2.2.2.2.2.2.2.2.2.2.2.2.1 (Int.ofNat n)), (show _ = (0 : Nat) from wf.2.2.2.2.2.2.2.2.2.2.2.2.2.1 0), getL, takeL, dropL, TK.isAgg, reduceIte]))
              repeat' first | with_reducible refine And.intro ?_ ?_ | (intro c9; first | exact absurd (by (try simp only [wf, nc, nc', Int.toNat_natCast, bsz, ByteArray.size_append, List.length_cons, List.length_nil] at *); (try simp (disch := omega) only [w64, w32, wu8] at *); first | done | omega) he | skip)
              all_goals (try (refine Later.mk ?_; cbv; try simp only [wp, (show ∀ n : Nat, _ = n from fun n => wf.2.2.2.2.2.2.2.2.2.2.2.2.2.1 (Int.ofNat n)), (show _ = (0 : Nat) from wf.2.2.2.2.2.2.2.2.2.2.2.2.2.1 0), getL, takeL, dropL, TK.isAgg, reduceIte]))
              refine awake.call ?_
              rintro _ rfl
              (cbv; try simp only [wp, (show ∀ n : Nat, _ = n from fun n => wf.2.2.2.2.2.2.2.2.2.2.2.2.2.1 (Int.ofNat n)), (show _ = (0 : Nat) from wf.2.2.2.2.2.2.2.2.2.2.2.2.2.1 0), getL, takeL, dropL, TK.isAgg, reduceIte])
              (try (refine Later.mk ?_; cbv; try simp only [wp, (show ∀ n : Nat, _ = n from fun n => wf.2.2.2.2.2.2.2.2.2.2.2.2.2.1 (Int.ofNat n)), (show _ = (0 : Nat) from wf.2.2.2.2.2.2.2.2.2.2.2.2.2.1 0), getL, takeL, dropL, TK.isAgg, reduceIte]))
              repeat' first | trivial | with_reducible refine And.intro ?_ ?_ | intro c9
              all_goals exact hR _



      · (refine Later.mk ?_; cbv; try simp only [wp, (show ∀ n : Nat, _ = n from fun n => wf.2.2.2.2.2.2.2.2.2.2.2.2.2.1 (Int.ofNat n)), (show _ = (0 : Nat) from wf.2.2.2.2.2.2.2.2.2.2.2.2.2.1 0), getL, takeL, dropL, TK.isAgg, reduceIte])
        exact hR _
    · (refine Later.mk ?_; cbv; try simp only [wp, (show ∀ n : Nat, _ = n from fun n => wf.2.2.2.2.2.2.2.2.2.2.2.2.2.1 (Int.ofNat n)), (show _ = (0 : Nat) from wf.2.2.2.2.2.2.2.2.2.2.2.2.2.1 0), getL, takeL, dropL, TK.isAgg, reduceIte])
      exact hR _
  · (refine Later.mk ?_; cbv; try simp only [wp, (show ∀ n : Nat, _ = n from fun n => wf.2.2.2.2.2.2.2.2.2.2.2.2.2.1 (Int.ofNat n)), (show _ = (0 : Nat) from wf.2.2.2.2.2.2.2.2.2.2.2.2.2.1 0), getL, takeL, dropL, TK.isAgg, reduceIte])
    exact hR _
end Go.VM
