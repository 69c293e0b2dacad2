/- Part of the proof: X43. -/
import Derived.Test.YtcpdnjehmnbheaaDoorX42
namespace Go.VM
open Go.Proofs Go
set_option maxRecDepth 100000
set_option linter.unusedVariables false
set_option linter.unusedSimpArgs false

def JoinOut (x : Option ByteArray) (r : A) : Prop := ∃ (t : ByteArray) (e : Int), (x = none → t = ⟨#[]⟩ ∧ e = 4) ∧ (∀ u, x = some u → t = u ∧ e = 0) ∧ r = .tup [.d (.str t), .d (.int .i64 e)]

theorem tokF_sh (K O : Nat → Int) (S : Nat → ByteArray) (a : Nat) : shF (tokF K S O) a = tokF (fun i => K (a + i)) (fun i => S (a + i)) (fun i => O (a + i)) := by
  funext i j
  unfold shF
  match j with
  | 0 => rfl
  | 1 => rfl
  | _ + 2 => rfl

theorem f31g {m' : Nat} {g' : Nat → Nat → D} (q b : Nat) (K O : Nat → Int) (S : Nat → ByteArray) (k p : Int) (t : ByteArray) (hm : m' = b - q) (hg : g' = shF (tokF K S O) q) (h1 : q < b) (h3 : b - q ≤ 3) (hz : ∀ i, i < b → (S i).size ≤ 16000) (ht : t.size ≤ 16000) :
    VFun (P ()) 31 [.d (.sl m' 3 g'), .agg [.d (.int .i64 k), .d (.str t), .d (.int .i64 p)]] (fun r => ∃ x : Bool, (x = true ↔ ¬ wellB (segL K S q b ++ [(k, t)])) ∧ r = .d (.bool x)) := by
  subst hm hg
  rw [tokF_sh]
  exact f31 (b - q) _ _ _ k p t (by omega) h3 (fun i hi => hz (q + i) (by omega)) ht

structure Sq where
  i : Nat
  a : Nat
  out : ByteArray
set_option maxHeartbeats 2000000 in
theorem f17 (m : Nat) (K O : Nat → Int) (S : Nat → ByteArray) (hm : m < 2 ^ 20) (hz : ∀ i, i < m → (S i).size ≤ 16000) :
    VFun (P ()) 17 [.d (.sl m 3 (tokF K S O))] (JoinOut (joinS K S m (sepP K S))) := by
  refine vfunK (Tf := @T) @tabOk 400 Tryd.func17 rfl rfl (Nat.le_of_ble_eq_true rfl) @fun ⟨_, _, _, _, _, _, _, _, _, _, _, _, _, _, _, _, _, _, _, _, _, _, _, _, _, _, _, _, _, _, _, _, _, _, _, _, _, _, wp, wf⟩ R hR => ?_
  cbv
  try simp only [wp, getL, takeL, dropL, TK.isAgg, reduceIte]
  replace hR := fun t e H h1 h2 => hR _ H _ (.tup2 (.d (.str t)) (.d (.int .i64 e))) ⟨t, e, h1, h2, rfl⟩
  obtain ⟨X, hX⟩ : ∃ X, X = joinS K S m (sepP K S) := ⟨_, rfl⟩
  rw [← hX] at hR
  have none' : X = none → ∀ H, R (A.tup [A.d (D.str ⟨⟨[]⟩⟩), A.d (D.int IntKind.i64 4)]) H := fun h H => hR _ _ H (fun _ => ⟨rfl, rfl⟩) (fun u hu => by rw [h] at hu; cases hu)
  refine ⟨fun h => ?_, fun h => ?_⟩
  · have h : ¬ m ≤ 6000 := (by (try simp only [wf, nc, nc', Int.toNat_natCast] at *); (try simp (disch := omega) only [w64, w32, wu8] at *); omega)
    have hx : X = none := by rw [hX, joinS, if_neg (fun c => h c.1)]
    (refine Later.mk ?_; cbv; try simp only [wp, getL, takeL, dropL, TK.isAgg, reduceIte])
    exact none' hx _
  · have h : m ≤ 6000 := (by (try simp only [wf, nc, nc', Int.toNat_natCast] at *); (try simp (disch := omega) only [w64, w32, wu8] at *); omega)
    obtain ⟨sp, hsp⟩ : ∃ sp, sp = sepP K S := ⟨_, rfl⟩
    have hall : (∀ i, i < m → aloneP (K i) (S i)) → X = joinG S sp m 0 ⟨#[]⟩ 0 := fun hc => by rw [hX, joinS, if_pos ⟨h, hc⟩, hsp]
    have hbad : ∀ i, i < m → ¬ aloneP (K i) (S i) → X = none := fun i hi hc => by rw [hX, joinS, if_neg (fun c => hc (c.2 i hi))]
    (refine Later.mk ?_; cbv; try simp only [wp, getL, takeL, dropL, TK.isAgg, reduceIte])
    refine loopK (Tf := @T) @tabOk 400 (fun y : Sq => ⟨[.d (.sl m 3 (tokF K S O)), .undef, .undef, .undef, .ptr 0 0, .d (.int .i64 y.a), .undef, .undef, .undef, .undef, .undef, .d (.sl m 3 (tokF K S O)), .d (.int .i64 m), .d (.int .i64 y.i), .undef, .undef, .undef, .undef, .undef, .undef, .undef, .undef, .undef, .undef, .undef, .undef, .undef, .undef, .undef, .undef, .undef, .undef, .undef, .undef, .undef, .undef, .undef, .undef, .undef, .undef, .undef, .undef, .undef, .undef, .undef, .undef, .undef, .undef, .undef, .undef, .undef, .undef, .undef, .undef, .undef, .undef, .undef, .undef, .undef, .undef, .undef], [.bld y.out]⟩) (fun y => m - y.i)
      (fun y => y.i ≤ m ∧ (y.a < y.i ∨ y.i = 0 ∧ y.a = 0) ∧ y.out.size ≤ 16000 ∧ (∀ j, j < y.i → aloneP (K j) (S j)) ∧ joinG S sp m 0 ⟨#[]⟩ 0 = joinG S sp (m - y.i) y.i y.out y.a) ⟨0, 0, ⟨⟨[]⟩⟩⟩
      ⟨Nat.zero_le _, .inr ⟨rfl, rfl⟩, Nat.zero_le _, fun j hj => absurd hj (Nat.not_lt_zero _), rfl⟩ ?_ (fun y => rfl) @fun ⟨_, _, _, _, _, _, _, _, _, _, _, _, _, _, _, _, _, _, _, _, _, _, _, _, _, _, _, _, _, _, _, _, _, _, _, _, _, _, wpa, wfa⟩ ⟨i, a, out⟩ Bk hy hBk => ?_
    · (cbv; try simp only [wf, exD, exL, exT, exB, exA, leLs, leL_d, leL_undef, deq_refl, deq_int, deq_bool, deq_str, and_true, true_and, AObj.iter.injEq, nc, nc']; try simp (disch := omega) only [w64, w32, wu8])
      exact ⟨rfl, rfl⟩
    obtain ⟨y1, y2, y3, y4, y5⟩ := hy
    dsimp only at y1 y2 y3 y4 y5
    (cbv; try simp only [wp, wpa, getL, takeL, dropL, TK.isAgg, reduceIte])
    refine ⟨fun e0 => ?_, fun e0 => ?_⟩
    · have e0 : i < m := (by (try simp only [wf, wfa, nc, nc', Int.toNat_natCast] at *); (try simp (disch := omega) only [w64, w32, wu8] at *); omega)
      have hzi := hz i e0
      (refine Later.mk ?_; cbv; try simp only [wp, wpa, getL, takeL, dropL, TK.isAgg, reduceIte])
      repeat' first | with_reducible refine And.intro ?_ ?_ | intro c9
      all_goals first
        | exact (by (try simp only [wf, wfa, nc, nc', Int.toNat_natCast] at *); (try simp (disch := omega) only [w64, w32, wu8] at *); omega)
        | trivial
        | (exfalso; exact (by (try simp only [wf, wfa, nc, nc', Int.toNat_natCast] at *); (try simp (disch := omega) only [w64, w32, wu8] at *); omega))
        | skip
      refine (f29 _ _ _ (by ((try simp only [wf, wfa, nc, nc', Int.toNat_natCast] at *); (try simp (disch := omega) only [w64, w32, wu8] at *)); omega)).call ?_
      rintro _ ⟨b, hb, rfl⟩
      have hb : b = true ↔ aloneP (K i) (S i) := by
        ((try simp only [wf, wfa, nc, nc', Int.toNat_natCast] at *); (try simp (disch := omega) only [w64, w32, wu8] at *))
        exact hb
      cases b
      · have hx : X = none := hbad i e0 (fun c => by simpa using hb.2 c)
        (cbv; try simp only [wp, wpa, getL, takeL, dropL, TK.isAgg, reduceIte])
        (refine Later.mk ?_; cbv; try simp only [wp, wpa, getL, takeL, dropL, TK.isAgg, reduceIte])
        exact none' hx _
      · have hal : aloneP (K i) (S i) := hb.1 rfl
        have y4' : ∀ j, j < i + 1 → aloneP (K j) (S j) := fun j hj => by
          rcases Nat.lt_or_ge j i with hl | hl
          · exact y4 j hl
          · obtain rfl : j = i := by omega
            exact hal
        clear hb
        (cbv; try simp only [wp, wpa, getL, takeL, dropL, TK.isAgg, reduceIte])
        (refine Later.mk ?_; cbv; try simp only [wp, wpa, getL, takeL, dropL, TK.isAgg, reduceIte])
        have hXn : joinG S sp m 0 ⟨#[]⟩ 0 = none → X = none := fun hn => by
          by_cases hc : ∀ j, j < m → aloneP (K j) (S j)
          · rw [hall hc, hn]
          · obtain ⟨j, hj⟩ := Classical.not_forall.1 hc
            obtain ⟨hj1, hj2⟩ := Classical.not_imp.1 hj
            exact hbad j hj1 hj2
        have hmi : m - i = (m - (i + 1)) + 1 := by omega
        have hstS : 0 < i ∧ sp a i → joinG S sp (m - i) i out a = if (out ++ ⟨#[32]⟩ ++ S i).size > 16000 then none else joinG S sp (m - (i + 1)) (i + 1) (out ++ ⟨#[32]⟩ ++ S i) i := fun c => by
          rw [hmi, joinG, if_pos c]
        have hstN : ¬ (0 < i ∧ sp a i) → joinG S sp (m - i) i out a = if (out ++ S i).size > 16000 then none else joinG S sp (m - (i + 1)) (i + 1) (out ++ S i) a := fun c => by
          rw [hmi, joinG, if_neg c]
        refine ⟨fun c1 => ?_, fun c1 => ?_⟩
        · have c1 : 0 < i := (by (try simp only [wf, wfa, nc, nc', Int.toNat_natCast] at *); (try simp (disch := omega) only [w64, w32, wu8] at *); omega)
          refine ⟨(by (try simp only [wf, wfa, nc, nc', Int.toNat_natCast] at *); (try simp (disch := omega) only [w64, w32, wu8] at *); omega), (by (try simp only [wf, wfa, nc, nc', Int.toNat_natCast] at *); (try simp (disch := omega) only [w64, w32, wu8] at *); omega), ?_⟩
          repeat' (with_reducible refine And.intro ?_ ?_)
          all_goals first
            | trivial
            | (refine (f30 _ _ _).call ?_
               rintro _ ⟨b1, hb1, rfl⟩
               have hb1 : b1 = decide (K (i - 1) ≠ 4) := by
                 ((try simp only [wf, wfa, nc, nc', Int.toNat_natCast] at *); (try simp (disch := omega) only [w64, w32, wu8] at *))
                 rw [hb1, show ((i : Int) - 1).toNat = i - 1 by omega]
               cases b1 <;> (cbv; try simp only [wp, wpa, getL, takeL, dropL, TK.isAgg, reduceIte])
               · have hw : ¬ (K (i - 1) ≠ 4 ∧ K i ≠ 4) := fun d => by
                   have := of_decide_eq_false hb1.symm
                   exact this d.1
                 clear hb1
                 repeat' (with_reducible refine And.intro ?_ ?_)
                 all_goals first
                   | exact (by (try simp only [wf, wfa, nc, nc', Int.toNat_natCast] at *); (try simp (disch := omega) only [w64, w32, wu8] at *); omega)
                   | trivial
                   | (refine (f31g (max a (i - 3)) i K O S _ _ _ (by ((try simp only [wf, wfa, nc, nc', Int.toNat_natCast] at *); (try simp (disch := omega) only [w64, w32, wu8] at *)); split <;> omega) (by ((try simp only [wf, wfa, nc, nc', Int.toNat_natCast] at *); (try simp (disch := omega) only [w64, w32, wu8] at *)); congr 1; split <;> omega) (by omega) (by omega) (fun j hj => hz j (by omega)) (by ((try simp only [wf, wfa, nc, nc', Int.toNat_natCast] at *); (try simp (disch := omega) only [w64, w32, wu8] at *)); exact hzi)).call ?_
                      rintro _ ⟨b3, hb3, rfl⟩
                      have hb3 : b3 = true ↔ ¬ wellB (segL K S (max a (i - 3)) i ++ [(K i, S i)]) := by
                        ((try simp only [wf, wfa, nc, nc', Int.toNat_natCast] at *); (try simp (disch := omega) only [w64, w32, wu8] at *))
                        exact hb3
                      cases b3
                      · have hns : ¬ (0 < i ∧ sp a i) := fun c => by
                          have c2 := c.2
                          rw [hsp] at c2
                          rcases c2 with d | d
                          · exact hw d
                          · simpa using hb3.2 d
                        (cbv; try simp only [wp, wpa, getL, takeL, dropL, TK.isAgg, reduceIte])
                        (refine Later.mk ?_; cbv; try simp only [wp, wpa, getL, takeL, dropL, TK.isAgg, reduceIte])
                        refine f26 ?_ rfl ?_
                        · ((try simp only [wf, wfa, nc, nc', Int.toNat_natCast] at *); (try simp (disch := omega) only [w64, w32, wu8] at *))
                          omega
                        intro n1 o2 hn1 ho2
                        have ho2 : o2 = out ++ S i := by
                          ((try simp only [wf, wfa, nc, nc', Int.toNat_natCast] at *); (try simp (disch := omega) only [w64, w32, wu8] at *))
                          exact ho2
                        have hz2 : o2.size = out.size + (S i).size := by rw [ho2, ByteArray.size_append]
                        clear hn1
                        (cbv; try simp only [wp, wpa, getL, takeL, dropL, TK.isAgg, reduceIte])
                        refine f32 rfl ?_
                        intro n2 hn2
                        (cbv; try simp only [wp, wpa, getL, takeL, dropL, TK.isAgg, reduceIte])
                        refine ⟨fun c5 => ?_, fun c5 => ?_⟩
                        · have c5 : 16000 < o2.size := (by (try simp only [wf, wfa, nc, nc', Int.toNat_natCast] at *); (try simp (disch := omega) only [w64, w32, wu8] at *); omega)
                          (refine Later.mk ?_; cbv; try simp only [wp, wpa, getL, takeL, dropL, TK.isAgg, reduceIte])
                          exact none' (hXn (by rw [y5, hstN hns, if_pos (by rw [← ho2]; exact c5)])) _
                        · have c5 : o2.size ≤ 16000 := (by (try simp only [wf, wfa, nc, nc', Int.toNat_natCast] at *); (try simp (disch := omega) only [w64, w32, wu8] at *); omega)
                          (refine Later.mk ?_; cbv; try simp only [wp, wpa, getL, takeL, dropL, TK.isAgg, reduceIte])
                          refine hBk ⟨i + 1, a, o2⟩ _ (by dsimp only; omega) ⟨by dsimp only; omega, .inl (by dsimp only; omega), c5, y4', by dsimp only; rw [y5, hstN hns, if_neg (by rw [← ho2]; omega), ← ho2]⟩ ?_
                          (cbv; try simp only [wf, wfa, exD, exL, exT, exB, exA, leLs, leL_d, leL_undef, deq_refl, deq_int, deq_bool, deq_str, and_true, true_and, AObj.iter.injEq, nc, nc']; try simp (disch := omega) only [w64, w32, wu8])
                          omega
                      · have hys : 0 < i ∧ sp a i := ⟨c1, by rw [hsp]; exact .inr (hb3.1 rfl)⟩
                        (cbv; try simp only [wp, wpa, getL, takeL, dropL, TK.isAgg, reduceIte])
                        (refine Later.mk ?_; cbv; try simp only [wp, wpa, getL, takeL, dropL, TK.isAgg, reduceIte])
                        refine f27 32 rfl (by omega) rfl ?_
                        intro o1 ho1
                        have hz1 : o1.size = out.size + 1 := by rw [ho1, ByteArray.size_append]; rfl
                        (cbv; try simp only [wp, wpa, getL, takeL, dropL, TK.isAgg, reduceIte])
                        refine f26 ?_ rfl ?_
                        · ((try simp only [wf, wfa, nc, nc', Int.toNat_natCast] at *); (try simp (disch := omega) only [w64, w32, wu8] at *))
                          omega
                        intro n1 o2 hn1 ho2
                        have ho2 : o2 = o1 ++ S i := by
                          ((try simp only [wf, wfa, nc, nc', Int.toNat_natCast] at *); (try simp (disch := omega) only [w64, w32, wu8] at *))
                          exact ho2
                        have hz2 : o2.size = o1.size + (S i).size := by rw [ho2, ByteArray.size_append]
                        clear hn1
                        (cbv; try simp only [wp, wpa, getL, takeL, dropL, TK.isAgg, reduceIte])
                        refine f32 rfl ?_
                        intro n2 hn2
                        (cbv; try simp only [wp, wpa, getL, takeL, dropL, TK.isAgg, reduceIte])
                        refine ⟨fun c5 => ?_, fun c5 => ?_⟩
                        · have c5 : 16000 < o2.size := (by (try simp only [wf, wfa, nc, nc', Int.toNat_natCast] at *); (try simp (disch := omega) only [w64, w32, wu8] at *); omega)
                          (refine Later.mk ?_; cbv; try simp only [wp, wpa, getL, takeL, dropL, TK.isAgg, reduceIte])
                          exact none' (hXn (by rw [y5, hstS hys, if_pos (by rw [← ho1]; rw [← ho2]; exact c5)])) _
                        · have c5 : o2.size ≤ 16000 := (by (try simp only [wf, wfa, nc, nc', Int.toNat_natCast] at *); (try simp (disch := omega) only [w64, w32, wu8] at *); omega)
                          (refine Later.mk ?_; cbv; try simp only [wp, wpa, getL, takeL, dropL, TK.isAgg, reduceIte])
                          refine hBk ⟨i + 1, i, o2⟩ _ (by dsimp only; omega) ⟨by dsimp only; omega, .inl (by dsimp only; omega), c5, y4', by dsimp only; rw [y5, hstS hys, if_neg (by rw [← ho1]; rw [← ho2]; omega), ← ho1, ← ho2]⟩ ?_
                          (cbv; try simp only [wf, wfa, exD, exL, exT, exB, exA, leLs, leL_d, leL_undef, deq_refl, deq_int, deq_bool, deq_str, and_true, true_and, AObj.iter.injEq, nc, nc']; try simp (disch := omega) only [w64, w32, wu8])
                          omega)
               · have hb1 := of_decide_eq_true hb1.symm
                 repeat' (with_reducible refine And.intro ?_ ?_)
                 all_goals first
                   | trivial
                   | (refine (f30 _ _ _).call ?_
                      rintro _ ⟨b2, hb2, rfl⟩
                      have hb2 : b2 = decide (K i ≠ 4) := by
                        ((try simp only [wf, wfa, nc, nc', Int.toNat_natCast] at *); (try simp (disch := omega) only [w64, w32, wu8] at *))
                        exact hb2
                      cases b2 <;> (cbv; try simp only [wp, wpa, getL, takeL, dropL, TK.isAgg, reduceIte])
                      · have hw : ¬ (K (i - 1) ≠ 4 ∧ K i ≠ 4) := fun d => by
                          have := of_decide_eq_false hb2.symm
                          exact this d.2
                        clear hb1 hb2
                        repeat' (with_reducible refine And.intro ?_ ?_)
                        all_goals first
                          | exact (by (try simp only [wf, wfa, nc, nc', Int.toNat_natCast] at *); (try simp (disch := omega) only [w64, w32, wu8] at *); omega)
                          | trivial
                          | (refine (f31g (max a (i - 3)) i K O S _ _ _ (by ((try simp only [wf, wfa, nc, nc', Int.toNat_natCast] at *); (try simp (disch := omega) only [w64, w32, wu8] at *)); split <;> omega) (by ((try simp only [wf, wfa, nc, nc', Int.toNat_natCast] at *); (try simp (disch := omega) only [w64, w32, wu8] at *)); congr 1; split <;> omega) (by omega) (by omega) (fun j hj => hz j (by omega)) (by ((try simp only [wf, wfa, nc, nc', Int.toNat_natCast] at *); (try simp (disch := omega) only [w64, w32, wu8] at *)); exact hzi)).call ?_
                             rintro _ ⟨b3, hb3, rfl⟩
                             have hb3 : b3 = true ↔ ¬ wellB (segL K S (max a (i - 3)) i ++ [(K i, S i)]) := by
                               ((try simp only [wf, wfa, nc, nc', Int.toNat_natCast] at *); (try simp (disch := omega) only [w64, w32, wu8] at *))
                               exact hb3
                             cases b3
                             · have hns : ¬ (0 < i ∧ sp a i) := fun c => by
                                 have c2 := c.2
                                 rw [hsp] at c2
                                 rcases c2 with d | d
                                 · exact hw d
                                 · simpa using hb3.2 d
                               (cbv; try simp only [wp, wpa, getL, takeL, dropL, TK.isAgg, reduceIte])
                               (refine Later.mk ?_; cbv; try simp only [wp, wpa, getL, takeL, dropL, TK.isAgg, reduceIte])
                               refine f26 ?_ rfl ?_
                               · ((try simp only [wf, wfa, nc, nc', Int.toNat_natCast] at *); (try simp (disch := omega) only [w64, w32, wu8] at *))
                                 omega
                               intro n1 o2 hn1 ho2
                               have ho2 : o2 = out ++ S i := by
                                 ((try simp only [wf, wfa, nc, nc', Int.toNat_natCast] at *); (try simp (disch := omega) only [w64, w32, wu8] at *))
                                 exact ho2
                               have hz2 : o2.size = out.size + (S i).size := by rw [ho2, ByteArray.size_append]
                               clear hn1
                               (cbv; try simp only [wp, wpa, getL, takeL, dropL, TK.isAgg, reduceIte])
                               refine f32 rfl ?_
                               intro n2 hn2
                               (cbv; try simp only [wp, wpa, getL, takeL, dropL, TK.isAgg, reduceIte])
                               refine ⟨fun c5 => ?_, fun c5 => ?_⟩
                               · have c5 : 16000 < o2.size := (by (try simp only [wf, wfa, nc, nc', Int.toNat_natCast] at *); (try simp (disch := omega) only [w64, w32, wu8] at *); omega)
                                 (refine Later.mk ?_; cbv; try simp only [wp, wpa, getL, takeL, dropL, TK.isAgg, reduceIte])
                                 exact none' (hXn (by rw [y5, hstN hns, if_pos (by rw [← ho2]; exact c5)])) _
                               · have c5 : o2.size ≤ 16000 := (by (try simp only [wf, wfa, nc, nc', Int.toNat_natCast] at *); (try simp (disch := omega) only [w64, w32, wu8] at *); omega)
                                 (refine Later.mk ?_; cbv; try simp only [wp, wpa, getL, takeL, dropL, TK.isAgg, reduceIte])
                                 refine hBk ⟨i + 1, a, o2⟩ _ (by dsimp only; omega) ⟨by dsimp only; omega, .inl (by dsimp only; omega), c5, y4', by dsimp only; rw [y5, hstN hns, if_neg (by rw [← ho2]; omega), ← ho2]⟩ ?_
                                 (cbv; try simp only [wf, wfa, exD, exL, exT, exB, exA, leLs, leL_d, leL_undef, deq_refl, deq_int, deq_bool, deq_str, and_true, true_and, AObj.iter.injEq, nc, nc']; try simp (disch := omega) only [w64, w32, wu8])
                                 omega
                             · have hys : 0 < i ∧ sp a i := ⟨c1, by rw [hsp]; exact .inr (hb3.1 rfl)⟩
                               (cbv; try simp only [wp, wpa, getL, takeL, dropL, TK.isAgg, reduceIte])
                               (refine Later.mk ?_; cbv; try simp only [wp, wpa, getL, takeL, dropL, TK.isAgg, reduceIte])
                               refine f27 32 rfl (by omega) rfl ?_
                               intro o1 ho1
                               have hz1 : o1.size = out.size + 1 := by rw [ho1, ByteArray.size_append]; rfl
                               (cbv; try simp only [wp, wpa, getL, takeL, dropL, TK.isAgg, reduceIte])
                               refine f26 ?_ rfl ?_
                               · ((try simp only [wf, wfa, nc, nc', Int.toNat_natCast] at *); (try simp (disch := omega) only [w64, w32, wu8] at *))
                                 omega
                               intro n1 o2 hn1 ho2
                               have ho2 : o2 = o1 ++ S i := by
                                 ((try simp only [wf, wfa, nc, nc', Int.toNat_natCast] at *); (try simp (disch := omega) only [w64, w32, wu8] at *))
                                 exact ho2
                               have hz2 : o2.size = o1.size + (S i).size := by rw [ho2, ByteArray.size_append]
                               clear hn1
                               (cbv; try simp only [wp, wpa, getL, takeL, dropL, TK.isAgg, reduceIte])
                               refine f32 rfl ?_
                               intro n2 hn2
                               (cbv; try simp only [wp, wpa, getL, takeL, dropL, TK.isAgg, reduceIte])
                               refine ⟨fun c5 => ?_, fun c5 => ?_⟩
                               · have c5 : 16000 < o2.size := (by (try simp only [wf, wfa, nc, nc', Int.toNat_natCast] at *); (try simp (disch := omega) only [w64, w32, wu8] at *); omega)
                                 (refine Later.mk ?_; cbv; try simp only [wp, wpa, getL, takeL, dropL, TK.isAgg, reduceIte])
                                 exact none' (hXn (by rw [y5, hstS hys, if_pos (by rw [← ho1]; rw [← ho2]; exact c5)])) _
                               · have c5 : o2.size ≤ 16000 := (by (try simp only [wf, wfa, nc, nc', Int.toNat_natCast] at *); (try simp (disch := omega) only [w64, w32, wu8] at *); omega)
                                 (refine Later.mk ?_; cbv; try simp only [wp, wpa, getL, takeL, dropL, TK.isAgg, reduceIte])
                                 refine hBk ⟨i + 1, i, o2⟩ _ (by dsimp only; omega) ⟨by dsimp only; omega, .inl (by dsimp only; omega), c5, y4', by dsimp only; rw [y5, hstS hys, if_neg (by rw [← ho1]; rw [← ho2]; omega), ← ho1, ← ho2]⟩ ?_
                                 (cbv; try simp only [wf, wfa, exD, exL, exT, exB, exA, leLs, leL_d, leL_undef, deq_refl, deq_int, deq_bool, deq_str, and_true, true_and, AObj.iter.injEq, nc, nc']; try simp (disch := omega) only [w64, w32, wu8])
                                 omega)
                      · have hys : 0 < i ∧ sp a i := ⟨c1, by rw [hsp]; exact .inl ⟨hb1, of_decide_eq_true hb2.symm⟩⟩
                        clear hb1 hb2
                        repeat' (with_reducible refine And.intro ?_ ?_)
                        all_goals first
                          | exact (by (try simp only [wf, wfa, nc, nc', Int.toNat_natCast] at *); (try simp (disch := omega) only [w64, w32, wu8] at *); omega)
                          | trivial
                          | ((refine Later.mk ?_; cbv; try simp only [wp, wpa, getL, takeL, dropL, TK.isAgg, reduceIte])
                             refine f27 32 rfl (by omega) rfl ?_
                             intro o1 ho1
                             have hz1 : o1.size = out.size + 1 := by rw [ho1, ByteArray.size_append]; rfl
                             (cbv; try simp only [wp, wpa, getL, takeL, dropL, TK.isAgg, reduceIte])
                             refine f26 ?_ rfl ?_
                             · ((try simp only [wf, wfa, nc, nc', Int.toNat_natCast] at *); (try simp (disch := omega) only [w64, w32, wu8] at *))
                               omega
                             intro n1 o2 hn1 ho2
                             have ho2 : o2 = o1 ++ S i := by
                               ((try simp only [wf, wfa, nc, nc', Int.toNat_natCast] at *); (try simp (disch := omega) only [w64, w32, wu8] at *))
                               exact ho2
                             have hz2 : o2.size = o1.size + (S i).size := by rw [ho2, ByteArray.size_append]
                             clear hn1
                             (cbv; try simp only [wp, wpa, getL, takeL, dropL, TK.isAgg, reduceIte])
                             refine f32 rfl ?_
                             intro n2 hn2
                             (cbv; try simp only [wp, wpa, getL, takeL, dropL, TK.isAgg, reduceIte])
                             refine ⟨fun c5 => ?_, fun c5 => ?_⟩
                             · have c5 : 16000 < o2.size := (by (try simp only [wf, wfa, nc, nc', Int.toNat_natCast] at *); (try simp (disch := omega) only [w64, w32, wu8] at *); omega)
                               (refine Later.mk ?_; cbv; try simp only [wp, wpa, getL, takeL, dropL, TK.isAgg, reduceIte])
                               exact none' (hXn (by rw [y5, hstS hys, if_pos (by rw [← ho1]; rw [← ho2]; exact c5)])) _
                             · have c5 : o2.size ≤ 16000 := (by (try simp only [wf, wfa, nc, nc', Int.toNat_natCast] at *); (try simp (disch := omega) only [w64, w32, wu8] at *); omega)
                               (refine Later.mk ?_; cbv; try simp only [wp, wpa, getL, takeL, dropL, TK.isAgg, reduceIte])
                               refine hBk ⟨i + 1, i, o2⟩ _ (by dsimp only; omega) ⟨by dsimp only; omega, .inl (by dsimp only; omega), c5, y4', by dsimp only; rw [y5, hstS hys, if_neg (by rw [← ho1]; rw [← ho2]; omega), ← ho1, ← ho2]⟩ ?_
                               (cbv; try simp only [wf, wfa, exD, exL, exT, exB, exA, leLs, leL_d, leL_undef, deq_refl, deq_int, deq_bool, deq_str, and_true, true_and, AObj.iter.injEq, nc, nc']; try simp (disch := omega) only [w64, w32, wu8])
                               omega)))
        · have c1 : i = 0 := (by (try simp only [wf, wfa, nc, nc', Int.toNat_natCast] at *); (try simp (disch := omega) only [w64, w32, wu8] at *); omega)
          have hns : ¬ (0 < i ∧ sp a i) := fun c => by omega
          repeat' (with_reducible refine And.intro ?_ ?_)
          all_goals first
            | trivial
            | ((refine Later.mk ?_; cbv; try simp only [wp, wpa, getL, takeL, dropL, TK.isAgg, reduceIte])
               refine f26 ?_ rfl ?_
               · ((try simp only [wf, wfa, nc, nc', Int.toNat_natCast] at *); (try simp (disch := omega) only [w64, w32, wu8] at *))
                 omega
               intro n1 o2 hn1 ho2
               have ho2 : o2 = out ++ S i := by
                 ((try simp only [wf, wfa, nc, nc', Int.toNat_natCast] at *); (try simp (disch := omega) only [w64, w32, wu8] at *))
                 exact ho2
               have hz2 : o2.size = out.size + (S i).size := by rw [ho2, ByteArray.size_append]
               clear hn1
               (cbv; try simp only [wp, wpa, getL, takeL, dropL, TK.isAgg, reduceIte])
               refine f32 rfl ?_
               intro n2 hn2
               (cbv; try simp only [wp, wpa, getL, takeL, dropL, TK.isAgg, reduceIte])
               refine ⟨fun c5 => ?_, fun c5 => ?_⟩
               · have c5 : 16000 < o2.size := (by (try simp only [wf, wfa, nc, nc', Int.toNat_natCast] at *); (try simp (disch := omega) only [w64, w32, wu8] at *); omega)
                 (refine Later.mk ?_; cbv; try simp only [wp, wpa, getL, takeL, dropL, TK.isAgg, reduceIte])
                 exact none' (hXn (by rw [y5, hstN hns, if_pos (by rw [← ho2]; exact c5)])) _
               · have c5 : o2.size ≤ 16000 := (by (try simp only [wf, wfa, nc, nc', Int.toNat_natCast] at *); (try simp (disch := omega) only [w64, w32, wu8] at *); omega)
                 (refine Later.mk ?_; cbv; try simp only [wp, wpa, getL, takeL, dropL, TK.isAgg, reduceIte])
                 refine hBk ⟨i + 1, a, o2⟩ _ (by dsimp only; omega) ⟨by dsimp only; omega, .inl (by dsimp only; omega), c5, y4', by dsimp only; rw [y5, hstN hns, if_neg (by rw [← ho2]; omega), ← ho2]⟩ ?_
                 (cbv; try simp only [wf, wfa, exD, exL, exT, exB, exA, leLs, leL_d, leL_undef, deq_refl, deq_int, deq_bool, deq_str, and_true, true_and, AObj.iter.injEq, nc, nc']; try simp (disch := omega) only [w64, w32, wu8])
                 omega)
    · have e0 : i = m := (by (try simp only [wf, wfa, nc, nc', Int.toNat_natCast] at *); (try simp (disch := omega) only [w64, w32, wu8] at *); omega)
      (refine Later.mk ?_; cbv; try simp only [wp, wpa, getL, takeL, dropL, TK.isAgg, reduceIte])
      refine f28 rfl ?_
      (cbv; try simp only [wp, wpa, getL, takeL, dropL, TK.isAgg, reduceIte])
      have hx : X = some out := by
        rw [hall (by rw [← e0]; exact y4), y5, e0, Nat.sub_self, joinG]
      exact hR _ _ _ (fun c => by rw [hx] at c; cases c) (fun u hu => by rw [hx] at hu; cases hu; exact ⟨rfl, rfl⟩)
end Go.VM
