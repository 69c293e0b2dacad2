/- Part of the proof: LB1, LL, LB2, LB3, LB4. -/
import Derived.Test.YtjfkhhenccochaaDoorRows
import Derived.Lib.LaidTab
import Derived.Test.YtjfkhhenccochaaDoorGX8
import Derived.Test.YtjfkhhenccochaaDoorGV5
import Derived.Test.YtjfkhhenccochaaDoorGV6
namespace Go.VM
open Go.Proofs Go
set_option maxRecDepth 100000
set_option linter.unusedVariables false
set_option linter.unusedSimpArgs false
/-- a list of numbers, as data -/
def nsF (k : IntKind) (N : Nat → Int) : Nat → Nat → D := fun i _ => .int k (N i)
def EvalR (c : Int) (n : Nat) (V P : Nat → Int) (m : Nat) (N : Nat → Int) (r : A) : Prop := ∃ x e : Int, r = .tup [.d (.int .i64 x), .d (.int .i64 e)] ∧ (¬ ValidP c n V P → x = 0 ∧ e = 4) ∧
  (ValidP c n V P → (evalF V P m N c n = none → x = 0 ∧ e = 1) ∧ ∀ y, evalF V P m N c n = some y → x = y ∧ e = 0)
theorem evalF_le {V P0 : Nat → Int} {m : Nat} {N : Nat → Int} {c : Int} (hc : c ≤ 1000) : ∀ {i : Nat} {x : Int}, (∀ k, k < i → P0 k ≤ 1000) → evalF V P0 m N c i = some x → x ≤ 2147484647
  | 0, x, _, h => by unfold evalF at h; have := Option.some.inj h; omega
  | i + 1, x, hp, h => by
    unfold evalF at h
    cases h' : evalF V P0 m N c i with
    | none => rw [h'] at h; cases h
    | some y =>
      rw [h'] at h
      dsimp only at h
      have hy := evalF_le hc (fun k hk => hp k (by omega)) h'
      have := hp i (by omega)
      split at h
      · cases h
      · have := Option.some.inj h; omega
theorem evalF_ge {V P0 : Nat → Int} {m : Nat} {N : Nat → Int} {c : Int} : ∀ {i : Nat} {x : Int}, evalF V P0 m N c i = some x → c ≤ x
  | 0, x, h => by unfold evalF at h; have := Option.some.inj h; omega
  | i + 1, x, h => by
    unfold evalF at h
    cases h' : evalF V P0 m N c i with
    | none => rw [h'] at h; cases h
    | some y =>
      rw [h'] at h
      dsimp only at h
      have hy := evalF_ge h'
      split at h
      · cases h
      · have := Option.some.inj h; omega
theorem Eval (c : Int) (n : Nat) (V P0 : Nat → Int) (m : Nat) (N : Nat → Int) (hn : n < 2 ^ 62) (hm : m < 2 ^ 62) : VFun (P ()) 17 [lv c n V P0, .d (.sl m 1 (nsF .i64 N))] (EvalR c n V P0 m N) := by
  refine vfunO (Tf := @T) @tabOk [] 400 Tryd.func17 rfl (fun {_} => by kernel_rfl) rfl (Nat.le_of_ble_eq_true rfl) @fun ⟨_, _, _, _, _, _, _, _, _, _, _, _, _, _, _, _, _, _, _, _, _, _, _, _, _, _, _, _, _, _, _, _, _, _, _, _, _, _, wp, wf⟩ R hR => ?_
  cbv
  try simp only [wp, (show ∀ n : Nat, _ = n from fun n => wf.2.2.2.2.2.2.2.2.2.2.2.2.2.1 (Int.ofNat n)), getL, takeL, dropL, TK.isAgg, reduceIte]
  replace hR := fun x e H h1 h2 => hR (.tup [.d (.int .i64 x), .d (.int .i64 e)]) H (.tup [.d (.int .i64 x), .d (.int .i64 e)]) (.tup2 (.d _) (.d _)) ⟨x, e, rfl, h1, h2⟩
  refine (Valid c n V P0 (by omega)).call ?_
  rintro _ ⟨b, hb, rfl⟩
  rcases hb.dich with ⟨rfl, v⟩ | ⟨rfl, v⟩ <;> clear hb <;> (cbv; try simp only [wp, (show ∀ n : Nat, _ = n from fun n => wf.2.2.2.2.2.2.2.2.2.2.2.2.2.1 (Int.ofNat n)), (show _ = (0 : Nat) from wf.2.2.2.2.2.2.2.2.2.2.2.2.2.1 0), getL, takeL, dropL, TK.isAgg, reduceIte]) <;> (refine Later.mk ?_; cbv; try simp only [wp, (show ∀ n : Nat, _ = n from fun n => wf.2.2.2.2.2.2.2.2.2.2.2.2.2.1 (Int.ofNat n)), (show _ = (0 : Nat) from wf.2.2.2.2.2.2.2.2.2.2.2.2.2.1 0), getL, takeL, dropL, TK.isAgg, reduceIte])
  · have hc := v.2.1
    have hc0 := v.1
    have hp : ∀ k, k < n → 0 ≤ V k ∧ V k < 1200 ∧ 0 ≤ P0 k ∧ P0 k ≤ 1000 := fun k hk => by
      obtain ⟨p1, p2, p3, p4, _⟩ := v.2.2.2 k hk
      exact ⟨p1, p2, p3, p4⟩
    replace hR := fun x e H h => hR x e H (fun hv => absurd v hv) (fun _ => h)
    obtain ⟨eF, heF⟩ : ∃ f_, f_ = evalF V P0 m N c := ⟨_, rfl⟩
    have eL : ∀ i x, i ≤ n → eF i = some x → c ≤ x ∧ x ≤ 2147484647 := fun i x hi h => by
      rw [heF] at h
      exact ⟨evalF_ge h, evalF_le hc (fun k hk => (hp k (by omega)).2.2.2) h⟩
    have e0 : eF 0 = some c := by rw [heF]; rfl
    have eS : ∀ i x, eF i = some x → eF (i + 1) = if atF m N (V i) > 2147483647 then none else some (max x (atF m N (V i) + P0 i)) := fun i x h => by
      rw [heF] at h ⊢
      rw [evalF, h]
    have eN : ∀ i, i < n → atF m N (V i) > 2147483647 → eF n = none := fun i hi h => by rw [heF]; exact evalF_none V P0 m N c n i hi h
    rw [← heF] at hR
    clear heF v
    refine loopO (Tf := @T) @tabOk [] 400 (fun y : Nat × Int => ⟨[.undef, .d (.sl m 1 (nsF .i64 N)), .ptr 0 0, .undef, .undef, .undef, .d (.int .i64 y.2), .undef, .undef, .undef, .undef, .undef, .undef, .undef, .undef, .undef, .d (.sl n 2 (lvF V P0)), .d (.int .i64 n), .d (.int .i64 y.1), .undef, .undef, .undef, .undef, .undef, .undef, .undef, .undef, .undef, .undef, .undef, .undef, .undef, .undef, .undef, .undef, .undef, .undef, .undef, .undef, .undef, .undef, .undef, .undef], [.box [.d (.int .i64 c), .d (.sl n 2 (lvF V P0))]]⟩) (fun y => n - y.1) (fun y => y.1 ≤ n ∧ eF y.1 = some y.2) (0, c) ⟨Nat.zero_le _, e0⟩ (fun {_} => by kernel_rfl) ?_ (fun i => by kernel_rfl) @fun ⟨_, _, _, _, _, _, _, _, _, _, _, _, _, _, _, _, _, _, _, _, _, _, _, _, _, _, _, _, _, _, _, _, _, _, _, _, _, _, wpa, wfa⟩ ⟨i, x⟩ Bk hi hBk => ?_
    · ((cbv; try simp only [wf, exD, exL, exT, exB, exA, leLs, leL_d, leL_undef, leL_nils, leA_nils, deq_refl, deq_int, deq_bool, deq_str, and_true, true_and, AObj.iter.injEq, nc, nc']; try simp (disch := omega) only [w64, w32, wu8]); first | done | rfl | omega | (simp; done) | (simp; omega) | skip)
    obtain ⟨i1, i2⟩ := hi
    dsimp only at i1 i2
    (cbv; try simp only [wp, (show ∀ n : Nat, _ = n from fun n => wf.2.2.2.2.2.2.2.2.2.2.2.2.2.1 (Int.ofNat n)), (show _ = (0 : Nat) from wf.2.2.2.2.2.2.2.2.2.2.2.2.2.1 0), wpa, (show ∀ n : Nat, _ = n from fun n => wfa.2.2.2.2.2.2.2.2.2.2.2.2.2.1 (Int.ofNat n)), (show _ = (0 : Nat) from wfa.2.2.2.2.2.2.2.2.2.2.2.2.2.1 0), getL, takeL, dropL, TK.isAgg, reduceIte])
    refine ⟨fun e => ?_, fun e => ?_⟩
    · have e : i < n := (by (try simp only [wf, wfa, nc, nc', Int.toNat_natCast, bsz, ByteArray.size_append, List.length_cons, List.length_nil] at *); (try simp (disch := omega) only [w64, w32, wu8] at *); first | done | omega)
      obtain ⟨p1, p2, p3, p4⟩ := hp i e
      obtain ⟨q1, q2⟩ := eL i x i1 i2
      have s1 := eS i x i2
      have n1 := eN i e
      obtain ⟨tv, htv⟩ : ∃ tv, tv = atF m N (V i) := ⟨_, rfl⟩
      rw [← htv] at s1 n1
      (refine Later.mk ?_; cbv; try simp only [wp, (show ∀ n : Nat, _ = n from fun n => wf.2.2.2.2.2.2.2.2.2.2.2.2.2.1 (Int.ofNat n)), (show _ = (0 : Nat) from wf.2.2.2.2.2.2.2.2.2.2.2.2.2.1 0), wpa, (show ∀ n : Nat, _ = n from fun n => wfa.2.2.2.2.2.2.2.2.2.2.2.2.2.1 (Int.ofNat n)), (show _ = (0 : Nat) from wfa.2.2.2.2.2.2.2.2.2.2.2.2.2.1 0), getL, takeL, dropL, TK.isAgg, reduceIte])
      repeat' first | with_reducible refine And.intro ?_ ?_ | intro c9
      all_goals first | exact (by (try simp only [wf, wfa, nc, nc', Int.toNat_natCast, bsz, ByteArray.size_append, List.length_cons, List.length_nil] at *); (try simp (disch := omega) only [w64, w32, wu8] at *); first | done | omega) | trivial | skip
      · have c8 : V i < m := (by (try simp only [wf, wfa, nc, nc', Int.toNat_natCast, bsz, ByteArray.size_append, List.length_cons, List.length_nil] at *); (try simp (disch := omega) only [w64, w32, wu8] at *); first | done | omega)
        have ht : tv = if 0 > N (V i).toNat then 0 else N (V i).toNat := by rw [htv, atF, if_pos c8]; split <;> omega
        (refine Later.mk ?_; cbv; try simp only [wp, (show ∀ n : Nat, _ = n from fun n => wf.2.2.2.2.2.2.2.2.2.2.2.2.2.1 (Int.ofNat n)), (show _ = (0 : Nat) from wf.2.2.2.2.2.2.2.2.2.2.2.2.2.1 0), wpa, (show ∀ n : Nat, _ = n from fun n => wfa.2.2.2.2.2.2.2.2.2.2.2.2.2.1 (Int.ofNat n)), (show _ = (0 : Nat) from wfa.2.2.2.2.2.2.2.2.2.2.2.2.2.1 0), getL, takeL, dropL, TK.isAgg, reduceIte])
        repeat' first | with_reducible refine And.intro ?_ ?_ | intro c9
        all_goals first | exact (by (try simp only [wf, wfa, nc, nc', Int.toNat_natCast, bsz, ByteArray.size_append, List.length_cons, List.length_nil] at *); (try simp (disch := omega) only [w64, w32, wu8] at *); first | done | omega) | trivial | skip
        · (refine Later.mk ?_; cbv; try simp only [wp, (show ∀ n : Nat, _ = n from fun n => wf.2.2.2.2.2.2.2.2.2.2.2.2.2.1 (Int.ofNat n)), (show _ = (0 : Nat) from wf.2.2.2.2.2.2.2.2.2.2.2.2.2.1 0), wpa, (show ∀ n : Nat, _ = n from fun n => wfa.2.2.2.2.2.2.2.2.2.2.2.2.2.1 (Int.ofNat n)), (show _ = (0 : Nat) from wfa.2.2.2.2.2.2.2.2.2.2.2.2.2.1 0), getL, takeL, dropL, TK.isAgg, reduceIte])
          exact hR _ _ _ ⟨fun _ => ⟨rfl, rfl⟩, fun y h => (by rw [n1 (by ((try simp only [wf, wfa, nc, nc', Int.toNat_natCast, bsz, ByteArray.size_append, List.length_cons, List.length_nil] at *); (try simp (disch := omega) only [w64, w32, wu8] at *)); rw [ht]; omega)] at h; cases h)⟩
        · (refine Later.mk ?_; cbv; try simp only [wp, (show ∀ n : Nat, _ = n from fun n => wf.2.2.2.2.2.2.2.2.2.2.2.2.2.1 (Int.ofNat n)), (show _ = (0 : Nat) from wf.2.2.2.2.2.2.2.2.2.2.2.2.2.1 0), wpa, (show ∀ n : Nat, _ = n from fun n => wfa.2.2.2.2.2.2.2.2.2.2.2.2.2.1 (Int.ofNat n)), (show _ = (0 : Nat) from wfa.2.2.2.2.2.2.2.2.2.2.2.2.2.1 0), getL, takeL, dropL, TK.isAgg, reduceIte])
          have t1 : tv ≤ 2147483647 := by ((try simp only [wf, wfa, nc, nc', Int.toNat_natCast, bsz, ByteArray.size_append, List.length_cons, List.length_nil] at *); (try simp (disch := omega) only [w64, w32, wu8] at *)); rw [ht]; omega
          have t0 : 0 ≤ tv := by rw [ht]; split <;> omega
          rw [if_neg (by omega)] at s1
          obtain ⟨x2, hx2⟩ : ∃ x2, x2 = max x (tv + P0 i) := ⟨_, rfl⟩
          rw [← hx2] at s1
          refine hBk (i + 1, x2) _ (by dsimp only; omega) ⟨by dsimp only; omega, s1⟩ ?_
          (cbv; try simp only [wf, wfa, exD, exL, exT, exB, exA, leLs, leL_d, leL_undef, leL_nils, leA_nils, deq_refl, deq_int, deq_bool, deq_str, and_true, true_and, AObj.iter.injEq, nc, nc']; try simp (disch := omega) only [w64, w32, wu8])
          ((try simp only [wf, wfa, nc, nc', Int.toNat_natCast, bsz, ByteArray.size_append, List.length_cons, List.length_nil] at *); (try simp (disch := omega) only [w64, w32, wu8] at *))
          rw [← ht]
          exact ⟨by split <;> omega, by omega⟩
      · have c8 : ¬ V i < m := (by (try simp only [wf, wfa, nc, nc', Int.toNat_natCast, bsz, ByteArray.size_append, List.length_cons, List.length_nil] at *); (try simp (disch := omega) only [w64, w32, wu8] at *); first | done | omega)
        have ht : tv = 0 := by rw [htv, atF, if_neg c8]
        rw [ht] at s1
        (refine Later.mk ?_; cbv; try simp only [wp, (show ∀ n : Nat, _ = n from fun n => wf.2.2.2.2.2.2.2.2.2.2.2.2.2.1 (Int.ofNat n)), (show _ = (0 : Nat) from wf.2.2.2.2.2.2.2.2.2.2.2.2.2.1 0), wpa, (show ∀ n : Nat, _ = n from fun n => wfa.2.2.2.2.2.2.2.2.2.2.2.2.2.1 (Int.ofNat n)), (show _ = (0 : Nat) from wfa.2.2.2.2.2.2.2.2.2.2.2.2.2.1 0), getL, takeL, dropL, TK.isAgg, reduceIte])
        repeat' first | with_reducible refine And.intro ?_ ?_ | intro c9
        all_goals first | exact (by (try simp only [wf, wfa, nc, nc', Int.toNat_natCast, bsz, ByteArray.size_append, List.length_cons, List.length_nil] at *); (try simp (disch := omega) only [w64, w32, wu8] at *); first | done | omega) | trivial | skip
        (refine Later.mk ?_; cbv; try simp only [wp, (show ∀ n : Nat, _ = n from fun n => wf.2.2.2.2.2.2.2.2.2.2.2.2.2.1 (Int.ofNat n)), (show _ = (0 : Nat) from wf.2.2.2.2.2.2.2.2.2.2.2.2.2.1 0), wpa, (show ∀ n : Nat, _ = n from fun n => wfa.2.2.2.2.2.2.2.2.2.2.2.2.2.1 (Int.ofNat n)), (show _ = (0 : Nat) from wfa.2.2.2.2.2.2.2.2.2.2.2.2.2.1 0), getL, takeL, dropL, TK.isAgg, reduceIte])
        rw [if_neg (by decide)] at s1
        obtain ⟨x2, hx2⟩ : ∃ x2, x2 = max x (0 + P0 i) := ⟨_, rfl⟩
        rw [← hx2] at s1
        refine hBk (i + 1, x2) _ (by dsimp only; omega) ⟨by dsimp only; omega, s1⟩ ?_
        (cbv; try simp only [wf, wfa, exD, exL, exT, exB, exA, leLs, leL_d, leL_undef, leL_nils, leA_nils, deq_refl, deq_int, deq_bool, deq_str, and_true, true_and, AObj.iter.injEq, nc, nc']; try simp (disch := omega) only [w64, w32, wu8])
        ((try simp only [wf, wfa, nc, nc', Int.toNat_natCast, bsz, ByteArray.size_append, List.length_cons, List.length_nil] at *); (try simp (disch := omega) only [w64, w32, wu8] at *))
        exact ⟨by split <;> omega, by omega⟩
    · obtain rfl : i = n := (by (try simp only [wf, wfa, nc, nc', Int.toNat_natCast, bsz, ByteArray.size_append, List.length_cons, List.length_nil] at *); (try simp (disch := omega) only [w64, w32, wu8] at *); first | done | omega)
      (refine Later.mk ?_; cbv; try simp only [wp, (show ∀ n : Nat, _ = n from fun n => wf.2.2.2.2.2.2.2.2.2.2.2.2.2.1 (Int.ofNat n)), (show _ = (0 : Nat) from wf.2.2.2.2.2.2.2.2.2.2.2.2.2.1 0), wpa, (show ∀ n : Nat, _ = n from fun n => wfa.2.2.2.2.2.2.2.2.2.2.2.2.2.1 (Int.ofNat n)), (show _ = (0 : Nat) from wfa.2.2.2.2.2.2.2.2.2.2.2.2.2.1 0), getL, takeL, dropL, TK.isAgg, reduceIte])
      exact hR x 0 _ ⟨fun h => (by rw [i2] at h; cases h), fun y h => ⟨Option.some.inj (i2.symm.trans h), rfl⟩⟩
  · exact hR 0 4 _ (fun _ => ⟨rfl, rfl⟩) (fun h => absurd h v)
theorem REval (c : Int) (n : Nat) (V P0 : Nat → Int) (m : Nat) (N : Nat → Int) (hn : n < 2 ^ 62) (hm : m < 2 ^ 62) : VFun (P ()) 18 [lv c n V P0, .d (.sl m 1 (nsF .i64 N))] (EvalR c n V P0 m N) := by
  refine vfunO (Tf := @T) @tabOk [] 400 Tryd.func18 rfl (fun {_} => by kernel_rfl) rfl (Nat.le_of_ble_eq_true rfl) @fun ⟨_, _, _, _, _, _, _, _, _, _, _, _, _, _, _, _, _, _, _, _, _, _, _, _, _, _, _, _, _, _, _, _, _, _, _, _, _, _, wp, wf⟩ R hR => ?_
  cbv
  try simp only [wp, (show ∀ n : Nat, _ = n from fun n => wf.2.2.2.2.2.2.2.2.2.2.2.2.2.1 (Int.ofNat n)), getL, takeL, dropL, TK.isAgg, reduceIte]
  replace hR := fun x e H h1 h2 => hR (.tup [.d (.int .i64 x), .d (.int .i64 e)]) H (.tup [.d (.int .i64 x), .d (.int .i64 e)]) (.tup2 (.d _) (.d _)) ⟨x, e, rfl, h1, h2⟩
  refine (RValid c n V P0 (by omega)).call ?_
  rintro _ ⟨b, hb, rfl⟩
  rcases hb.dich with ⟨rfl, v⟩ | ⟨rfl, v⟩ <;> clear hb <;> (cbv; try simp only [wp, (show ∀ n : Nat, _ = n from fun n => wf.2.2.2.2.2.2.2.2.2.2.2.2.2.1 (Int.ofNat n)), (show _ = (0 : Nat) from wf.2.2.2.2.2.2.2.2.2.2.2.2.2.1 0), getL, takeL, dropL, TK.isAgg, reduceIte]) <;> (refine Later.mk ?_; cbv; try simp only [wp, (show ∀ n : Nat, _ = n from fun n => wf.2.2.2.2.2.2.2.2.2.2.2.2.2.1 (Int.ofNat n)), (show _ = (0 : Nat) from wf.2.2.2.2.2.2.2.2.2.2.2.2.2.1 0), getL, takeL, dropL, TK.isAgg, reduceIte])
  · have hc := v.2.1
    have hc0 := v.1
    have hp : ∀ k, k < n → 0 ≤ V k ∧ V k < 1200 ∧ 0 ≤ P0 k ∧ P0 k ≤ 1000 := fun k hk => by
      obtain ⟨p1, p2, p3, p4, _⟩ := v.2.2.2 k hk
      exact ⟨p1, p2, p3, p4⟩
    replace hR := fun x e H h => hR x e H (fun hv => absurd v hv) (fun _ => h)
    obtain ⟨eF, heF⟩ : ∃ f_, f_ = evalF V P0 m N c := ⟨_, rfl⟩
    have eL : ∀ i x, i ≤ n → eF i = some x → c ≤ x ∧ x ≤ 2147484647 := fun i x hi h => by
      rw [heF] at h
      exact ⟨evalF_ge h, evalF_le hc (fun k hk => (hp k (by omega)).2.2.2) h⟩
    have e0 : eF 0 = some c := by rw [heF]; rfl
    have eS : ∀ i x, eF i = some x → eF (i + 1) = if atF m N (V i) > 2147483647 then none else some (max x (atF m N (V i) + P0 i)) := fun i x h => by
      rw [heF] at h ⊢
      rw [evalF, h]
    have eN : ∀ i, i < n → atF m N (V i) > 2147483647 → eF n = none := fun i hi h => by rw [heF]; exact evalF_none V P0 m N c n i hi h
    rw [← heF] at hR
    clear heF v
    refine loopO (Tf := @T) @tabOk [] 400 (fun y : Nat × Int => ⟨[.undef, .d (.sl m 1 (nsF .i64 N)), .ptr 0 0, .undef, .undef, .undef, .d (.int .i64 y.2), .d (.int .i64 y.1), .undef, .undef, .undef, .undef, .undef, .undef, .undef, .undef, .undef, .undef, .undef, .undef, .undef, .undef, .undef, .undef, .undef, .undef, .undef, .undef, .undef, .undef, .undef, .undef, .undef, .undef, .undef, .undef, .undef, .undef, .undef, .undef, .undef, .undef, .undef, .undef, .undef, .undef, .undef, .undef, .undef, .undef, .undef, .undef, .undef], [.box [.d (.int .i64 c), .d (.sl n 2 (lvF V P0))]]⟩) (fun y => n - y.1) (fun y => y.1 ≤ n ∧ eF y.1 = some y.2) (0, c) ⟨Nat.zero_le _, e0⟩ (fun {_} => by kernel_rfl) ?_ (fun i => by kernel_rfl) @fun ⟨_, _, _, _, _, _, _, _, _, _, _, _, _, _, _, _, _, _, _, _, _, _, _, _, _, _, _, _, _, _, _, _, _, _, _, _, _, _, wpa, wfa⟩ ⟨i, x⟩ Bk hi hBk => ?_
    · ((cbv; try simp only [wf, exD, exL, exT, exB, exA, leLs, leL_d, leL_undef, leL_nils, leA_nils, deq_refl, deq_int, deq_bool, deq_str, and_true, true_and, AObj.iter.injEq, nc, nc']; try simp (disch := omega) only [w64, w32, wu8]); first | done | rfl | omega | (simp; done) | (simp; omega) | skip)
    obtain ⟨i1, i2⟩ := hi
    dsimp only at i1 i2
    (cbv; try simp only [wp, (show ∀ n : Nat, _ = n from fun n => wf.2.2.2.2.2.2.2.2.2.2.2.2.2.1 (Int.ofNat n)), (show _ = (0 : Nat) from wf.2.2.2.2.2.2.2.2.2.2.2.2.2.1 0), wpa, (show ∀ n : Nat, _ = n from fun n => wfa.2.2.2.2.2.2.2.2.2.2.2.2.2.1 (Int.ofNat n)), (show _ = (0 : Nat) from wfa.2.2.2.2.2.2.2.2.2.2.2.2.2.1 0), getL, takeL, dropL, TK.isAgg, reduceIte])
    refine ⟨fun e => ?_, fun e => ?_⟩
    · have e : i < n := (by (try simp only [wf, wfa, nc, nc', Int.toNat_natCast, bsz, ByteArray.size_append, List.length_cons, List.length_nil] at *); (try simp (disch := omega) only [w64, w32, wu8] at *); first | done | omega)
      obtain ⟨p1, p2, p3, p4⟩ := hp i e
      obtain ⟨q1, q2⟩ := eL i x i1 i2
      have s1 := eS i x i2
      have n1 := eN i e
      obtain ⟨tv, htv⟩ : ∃ tv, tv = atF m N (V i) := ⟨_, rfl⟩
      rw [← htv] at s1 n1
      (refine Later.mk ?_; cbv; try simp only [wp, (show ∀ n : Nat, _ = n from fun n => wf.2.2.2.2.2.2.2.2.2.2.2.2.2.1 (Int.ofNat n)), (show _ = (0 : Nat) from wf.2.2.2.2.2.2.2.2.2.2.2.2.2.1 0), wpa, (show ∀ n : Nat, _ = n from fun n => wfa.2.2.2.2.2.2.2.2.2.2.2.2.2.1 (Int.ofNat n)), (show _ = (0 : Nat) from wfa.2.2.2.2.2.2.2.2.2.2.2.2.2.1 0), getL, takeL, dropL, TK.isAgg, reduceIte])
      repeat' first | with_reducible refine And.intro ?_ ?_ | intro c9
      all_goals first | exact (by (try simp only [wf, wfa, nc, nc', Int.toNat_natCast, bsz, ByteArray.size_append, List.length_cons, List.length_nil] at *); (try simp (disch := omega) only [w64, w32, wu8] at *); first | done | omega) | trivial | skip
      · have c8 : V i < m := (by (try simp only [wf, wfa, nc, nc', Int.toNat_natCast, bsz, ByteArray.size_append, List.length_cons, List.length_nil] at *); (try simp (disch := omega) only [w64, w32, wu8] at *); first | done | omega)
        have ht : tv = if N (V i).toNat > 0 then N (V i).toNat else 0 := by rw [htv, atF, if_pos c8]; split <;> omega
        (refine Later.mk ?_; cbv; try simp only [wp, (show ∀ n : Nat, _ = n from fun n => wf.2.2.2.2.2.2.2.2.2.2.2.2.2.1 (Int.ofNat n)), (show _ = (0 : Nat) from wf.2.2.2.2.2.2.2.2.2.2.2.2.2.1 0), wpa, (show ∀ n : Nat, _ = n from fun n => wfa.2.2.2.2.2.2.2.2.2.2.2.2.2.1 (Int.ofNat n)), (show _ = (0 : Nat) from wfa.2.2.2.2.2.2.2.2.2.2.2.2.2.1 0), getL, takeL, dropL, TK.isAgg, reduceIte])
        repeat' first | with_reducible refine And.intro ?_ ?_ | intro c9
        all_goals first | exact (by (try simp only [wf, wfa, nc, nc', Int.toNat_natCast, bsz, ByteArray.size_append, List.length_cons, List.length_nil] at *); (try simp (disch := omega) only [w64, w32, wu8] at *); first | done | omega) | trivial | skip
        · (refine Later.mk ?_; cbv; try simp only [wp, (show ∀ n : Nat, _ = n from fun n => wf.2.2.2.2.2.2.2.2.2.2.2.2.2.1 (Int.ofNat n)), (show _ = (0 : Nat) from wf.2.2.2.2.2.2.2.2.2.2.2.2.2.1 0), wpa, (show ∀ n : Nat, _ = n from fun n => wfa.2.2.2.2.2.2.2.2.2.2.2.2.2.1 (Int.ofNat n)), (show _ = (0 : Nat) from wfa.2.2.2.2.2.2.2.2.2.2.2.2.2.1 0), getL, takeL, dropL, TK.isAgg, reduceIte])
          exact hR _ _ _ ⟨fun _ => ⟨rfl, rfl⟩, fun y h => (by rw [n1 (by ((try simp only [wf, wfa, nc, nc', Int.toNat_natCast, bsz, ByteArray.size_append, List.length_cons, List.length_nil] at *); (try simp (disch := omega) only [w64, w32, wu8] at *)); rw [ht]; omega)] at h; cases h)⟩
        · (refine Later.mk ?_; cbv; try simp only [wp, (show ∀ n : Nat, _ = n from fun n => wf.2.2.2.2.2.2.2.2.2.2.2.2.2.1 (Int.ofNat n)), (show _ = (0 : Nat) from wf.2.2.2.2.2.2.2.2.2.2.2.2.2.1 0), wpa, (show ∀ n : Nat, _ = n from fun n => wfa.2.2.2.2.2.2.2.2.2.2.2.2.2.1 (Int.ofNat n)), (show _ = (0 : Nat) from wfa.2.2.2.2.2.2.2.2.2.2.2.2.2.1 0), getL, takeL, dropL, TK.isAgg, reduceIte])
          have t1 : tv ≤ 2147483647 := by ((try simp only [wf, wfa, nc, nc', Int.toNat_natCast, bsz, ByteArray.size_append, List.length_cons, List.length_nil] at *); (try simp (disch := omega) only [w64, w32, wu8] at *)); rw [ht]; omega
          have t0 : 0 ≤ tv := by rw [ht]; split <;> omega
          rw [if_neg (by omega)] at s1
          obtain ⟨x2, hx2⟩ : ∃ x2, x2 = max x (tv + P0 i) := ⟨_, rfl⟩
          rw [← hx2] at s1
          repeat' first | with_reducible refine And.intro ?_ ?_ | intro c9
          all_goals first | exact (by (try simp only [wf, wfa, nc, nc', Int.toNat_natCast, bsz, ByteArray.size_append, List.length_cons, List.length_nil] at *); (try simp (disch := omega) only [w64, w32, wu8] at *); first | done | omega) | skip
          refine hBk (i + 1, x2) _ (by dsimp only; omega) ⟨by dsimp only; omega, s1⟩ ?_
          (cbv; try simp only [wf, wfa, exD, exL, exT, exB, exA, leLs, leL_d, leL_undef, leL_nils, leA_nils, deq_refl, deq_int, deq_bool, deq_str, and_true, true_and, AObj.iter.injEq, nc, nc']; try simp (disch := omega) only [w64, w32, wu8])
          ((try simp only [wf, wfa, nc, nc', Int.toNat_natCast, bsz, ByteArray.size_append, List.length_cons, List.length_nil] at *); (try simp (disch := omega) only [w64, w32, wu8] at *))
          rw [← ht]
          exact ⟨by split <;> omega, by omega⟩
      · have c8 : ¬ V i < m := (by (try simp only [wf, wfa, nc, nc', Int.toNat_natCast, bsz, ByteArray.size_append, List.length_cons, List.length_nil] at *); (try simp (disch := omega) only [w64, w32, wu8] at *); first | done | omega)
        have ht : tv = 0 := by rw [htv, atF, if_neg c8]
        rw [ht] at s1
        (refine Later.mk ?_; cbv; try simp only [wp, (show ∀ n : Nat, _ = n from fun n => wf.2.2.2.2.2.2.2.2.2.2.2.2.2.1 (Int.ofNat n)), (show _ = (0 : Nat) from wf.2.2.2.2.2.2.2.2.2.2.2.2.2.1 0), wpa, (show ∀ n : Nat, _ = n from fun n => wfa.2.2.2.2.2.2.2.2.2.2.2.2.2.1 (Int.ofNat n)), (show _ = (0 : Nat) from wfa.2.2.2.2.2.2.2.2.2.2.2.2.2.1 0), getL, takeL, dropL, TK.isAgg, reduceIte])
        repeat' first | with_reducible refine And.intro ?_ ?_ | intro c9
        all_goals first | exact (by (try simp only [wf, wfa, nc, nc', Int.toNat_natCast, bsz, ByteArray.size_append, List.length_cons, List.length_nil] at *); (try simp (disch := omega) only [w64, w32, wu8] at *); first | done | omega) | trivial | skip
        (refine Later.mk ?_; cbv; try simp only [wp, (show ∀ n : Nat, _ = n from fun n => wf.2.2.2.2.2.2.2.2.2.2.2.2.2.1 (Int.ofNat n)), (show _ = (0 : Nat) from wf.2.2.2.2.2.2.2.2.2.2.2.2.2.1 0), wpa, (show ∀ n : Nat, _ = n from fun n => wfa.2.2.2.2.2.2.2.2.2.2.2.2.2.1 (Int.ofNat n)), (show _ = (0 : Nat) from wfa.2.2.2.2.2.2.2.2.2.2.2.2.2.1 0), getL, takeL, dropL, TK.isAgg, reduceIte])
        rw [if_neg (by decide)] at s1
        obtain ⟨x2, hx2⟩ : ∃ x2, x2 = max x (0 + P0 i) := ⟨_, rfl⟩
        rw [← hx2] at s1
        repeat' first | with_reducible refine And.intro ?_ ?_ | intro c9
        all_goals first | exact (by (try simp only [wf, wfa, nc, nc', Int.toNat_natCast, bsz, ByteArray.size_append, List.length_cons, List.length_nil] at *); (try simp (disch := omega) only [w64, w32, wu8] at *); first | done | omega) | skip
        refine hBk (i + 1, x2) _ (by dsimp only; omega) ⟨by dsimp only; omega, s1⟩ ?_
        (cbv; try simp only [wf, wfa, exD, exL, exT, exB, exA, leLs, leL_d, leL_undef, leL_nils, leA_nils, deq_refl, deq_int, deq_bool, deq_str, and_true, true_and, AObj.iter.injEq, nc, nc']; try simp (disch := omega) only [w64, w32, wu8])
        ((try simp only [wf, wfa, nc, nc', Int.toNat_natCast, bsz, ByteArray.size_append, List.length_cons, List.length_nil] at *); (try simp (disch := omega) only [w64, w32, wu8] at *))
        exact ⟨by split <;> omega, by omega⟩
    · obtain rfl : i = n := (by (try simp only [wf, wfa, nc, nc', Int.toNat_natCast, bsz, ByteArray.size_append, List.length_cons, List.length_nil] at *); (try simp (disch := omega) only [w64, w32, wu8] at *); first | done | omega)
      (refine Later.mk ?_; cbv; try simp only [wp, (show ∀ n : Nat, _ = n from fun n => wf.2.2.2.2.2.2.2.2.2.2.2.2.2.1 (Int.ofNat n)), (show _ = (0 : Nat) from wf.2.2.2.2.2.2.2.2.2.2.2.2.2.1 0), wpa, (show ∀ n : Nat, _ = n from fun n => wfa.2.2.2.2.2.2.2.2.2.2.2.2.2.1 (Int.ofNat n)), (show _ = (0 : Nat) from wfa.2.2.2.2.2.2.2.2.2.2.2.2.2.1 0), getL, takeL, dropL, TK.isAgg, reduceIte])
      exact hR x 0 _ ⟨fun h => (by rw [i2] at h; cases h), fun y h => ⟨Option.some.inj (i2.symm.trans h), rfl⟩⟩
  · exact hR 0 4 _ (fun _ => ⟨rfl, rfl⟩) (fun h => absurd h v)
end Go.VM

/- The rows of the seat, from the contracts: what all laws share. -/
namespace Go.VM
open Go.Proofs Go Go.ChangeShapes Go.WideShapes Go.ChangeAt Go.RowKit
open Go.Proofs.YtjfkhhenccochaaDoor
set_option maxRecDepth 100000
set_option linter.unusedVariables false
theorem own : ownKnob Tryd.prog.godebug = none := by kernel_rfl
theorem laidOut : laidOutB Tryd.prog = true := by kernel_rfl
theorem gNType : (Tryd.prog.globals[0]?).map (·.type) = some 127 := by kernel_rfl
theorem cellsA : Tryd.prog.cellsOf 101 = 1 := by kernel_rfl
theorem cellsB : Tryd.prog.cellsOf 127 = 20 := by kernel_rfl
noncomputable def laidL : List (String × DataW Unit) := [("math/bits.deBruijn32tab", Rows.laid_math_bits_deBruijn32tab), ("math/bits.deBruijn64tab", Rows.laid_math_bits_deBruijn64tab), ("internal/strconv.uint64pow10", Rows.laid_internal_strconv_uint64pow10)]
theorem laid_filter : (laidL.filter fun x => x.1 == "internal/strconv.uint64pow10") = [("internal/strconv.uint64pow10", Lib.tabData .u64 Lib.pow10Tab)] := by kernel_rfl
theorem glob_of (W : World) (h : laidMetH Tryd.prog laidL W) : ∀ b k v, Glb.G b k v → b < W.heap.size ∧ W.cell? ⟨b, k, none⟩ = v := by
  have h2 := laidMetH.filter (fun x => x.1 == "internal/strconv.uint64pow10") h
  rw [laid_filter] at h2
  have e : laidMetH Tryd.prog [("internal/strconv.uint64pow10", Lib.tabData .u64 Lib.pow10Tab)] W = laidMet Tryd.prog [("internal/strconv.uint64pow10", Lib.tabData .u64 Lib.pow10Tab)] W := rfl
  rw [e] at h2
  have tab : Lib.TabIs Tryd.prog W "internal/strconv.uint64pow10" .u64 Lib.pow10Tab := Lib.tabIs_of_head gN gNType Tryd.underlying127 Tryd.underlying101 cellsA cellsB h2
  unfold Lib.TabIs World.var? at tab
  have gN' : Tryd.prog.globalNamed "internal/strconv.uint64pow10" = some 0 := gN
  rw [gN'] at tab
  simp only [Option.bind_some] at tab
  split at tab
  · rename_i cs t fr hc
    simp only [Option.some.injEq] at tab
    have hl : (0 : Nat) < W.heap.size := (Array.getElem?_eq_some_iff.1 hc).1
    have hsz : cs.size = 20 := by rw [tab]; simp [Lib.pow10Tab]
    rintro b k v (h | ⟨rfl, ⟨hk, rfl⟩ | ⟨rfl, rfl⟩⟩)
    · exact h.elim
    · refine ⟨hl, ?_⟩
      unfold World.cell?
      rw [hc]
      simp [tab, Lib.pow10Tab, hk]
    · refine ⟨hl, ?_⟩
      unfold World.cell?
      rw [hc]
      simp [hsz]
  · cases tab
noncomputable def laidWorld (os : Os) : World := World.laidAll Tryd.prog os laidL
theorem laid_met (os : Os) (args : Array Value) : laidMet Tryd.prog laidL ((laidWorld os).forCall (fun _ _ => 0) ⟨#[], args, []⟩).memory :=
  laidMet_laidAll args (by kernel_rfl) (by kernel_rfl)
theorem laid_shaped (os : Os) (args : Array Value) : ((laidWorld os).forCall (fun _ _ => 0) ⟨#[], args, []⟩).Shaped Tryd.prog :=
  World.shaped_of_ZipB (by kernel_rfl) (by kernel_rfl)

/-! ### Arguments -/
def argTs : List TypeId := [3, 22, 50, 24, 42, 28, 36, 33]
theorem argTs_ok : ∀ t, t ∈ argTs → plainT Tryd.prog argTs t = true := List.all_eq_true.1 (by kernel_rfl)
variable {H : Type} {enc : TypeId × Value → H} {W : World} {base b0 : Nat} {sp : Nat → Bool} {held : Bool} {r : Reach} {v : Value} {d : DataW H} {ps : List MemPlace}
def intD : D → Int
  | .int _ n => n
  | _ => 0
theorem lvar_shp {g : Nat → D} (h : Shp Tryd.prog 50 ((List.range (Tryd.prog.cellsOf 50)).map g)) : g 0 = .int .i64 (intD (g 0)) ∧ g 1 = .int .i64 (intD (g 1)) := by
  have c : Tryd.prog.cellsOf 50 = 2 := by kernel_rfl
  rw [c] at h
  have h := h.struct_inv Tryd.underlying50
  generalize hd : List.map g (List.range 2) = ds at h
  cases h with | @cons _ _ d1 d2 h1 _ h2 =>
  obtain ⟨a, rfl, _⟩ := h1.int_inv Tryd.underlying3
  cases h2 with | @cons _ _ d3 d4 h3 _ h4 =>
  obtain ⟨b, rfl, _⟩ := h3.int_inv Tryd.underlying3
  cases h4
  simp [List.range_succ] at hd
  rw [hd.1, hd.2]
  exact ⟨rfl, rfl⟩
theorem vars_shp {ds : List D} (h : Shp Tryd.prog 22 ds) : ∃ (n : Nat) (g : Nat → Nat → D) (V P0 : Nat → Int), ds = [.sl n 2 g] ∧ n ≤ maxLen ∧ Deq (.sl n 2 g) (.sl n 2 (lvF V P0)) := by
  obtain ⟨n, g, e, hn, hall⟩ := h.slice_inv Tryd.underlying22
  have c : Tryd.prog.cellsOf 50 = 2 := by kernel_rfl
  refine ⟨n, g, fun i => intD (g i 0), fun i => intD (g i 1), by rw [e, c], hn, .sl _ _ _ _ fun i j hi hj => .of_eq ?_⟩
  obtain ⟨h1, h2⟩ := lvar_shp (hall i hi)
  match j, hj with
  | 0, _ => exact h1
  | 1, _ => exact h2
theorem level_shp {ds : List D} (h : Shp Tryd.prog 24 ds) : ∃ (c : Int) (n : Nat) (g : Nat → Nat → D) (V P0 : Nat → Int), ds = [.int .i64 c, .sl n 2 g] ∧ n ≤ maxLen ∧ Deq (.sl n 2 g) (.sl n 2 (lvF V P0)) := by
  have h := h.struct_inv Tryd.underlying24
  generalize hd : ds = ds' at h
  cases h with | @cons _ _ d1 d2 h1 _ h2 =>
  obtain ⟨c, rfl, _⟩ := h1.int_inv Tryd.underlying3
  cases h2 with | @cons _ _ d3 d4 h3 _ h4 =>
  obtain ⟨n, g, V, P0, rfl, hn, he⟩ := vars_shp h3
  cases h4
  exact ⟨c, n, g, V, P0, rfl, hn, he⟩
theorem open_level (hval : Value.okWide Tryd.prog W r b0 24 v) (hd : DataW.Trod enc Tryd.prog W base sp held 24 v d ps) :
    ∃ (c : Int) (n : Nat) (V P0 : Nat → Int), n < 2 ^ 63 ∧ ∀ ι H, RepA W (fun b _ => b < W.heap.size) ι H v (lv c n V P0) := by
  have lim : Lim := ⟨fun _ _ => True⟩
  obtain ⟨cs, rfl, hsz⟩ := okWide_struct Tryd.underlying24 hval
  obtain ⟨fuel, hf⟩ := hd
  obtain ⟨ds, h1, h2, h3, h4⟩ := trod_open argTs_ok fuel 24 _ _ (by decide) hf
  obtain ⟨c, n, g, V, P0, rfl, hn, he⟩ := level_shp h4
  refine ⟨c, n, V, P0, by unfold maxLen at hn; omega, fun ι H => .agg cs.toList _ ?_ fun k hk => ?_⟩
  · simpa [Value.cells] using h1.symm
  · match k, hk with
    | 0, _ => exact .d _ _ (h3 0 (Nat.zero_lt_succ _))
    | 1, _ => exact .d _ _ ((h3 1 (Nat.succ_lt_succ (Nat.zero_lt_succ _))).deq he)
theorem open_levels (hval : Value.okWide Tryd.prog W r b0 42 v) (hd : DataW.Trod enc Tryd.prog W base sp held 42 v d ps) :
    ∃ (m : Nat) (C : Nat → Int) (N : Nat → Nat) (V P0 : Nat → Nat → Int), m < 2 ^ 63 ∧ (∀ i, i < m → N i < 2 ^ 63) ∧ ∀ ι H, RepA W (fun b _ => b < W.heap.size) ι H v (.d (.sl m 2 (lsF C N V P0))) := by
  have lim : Lim := ⟨fun _ _ => True⟩
  obtain ⟨a, len, cap, rfl⟩ := okWide_slice Tryd.underlying42 hval
  obtain ⟨fuel, hf⟩ := hd
  obtain ⟨ds, h1, h2, h3, h4⟩ := trod_open argTs_ok fuel 42 _ _ (by decide) hf
  obtain ⟨m, g, rfl, hm, hall⟩ := h4.slice_inv Tryd.underlying42
  have c : Tryd.prog.cellsOf 24 = 2 := by kernel_rfl
  rw [c] at hall h3
  have each : ∀ i, i < m → ∃ (q : Int × Nat × (Nat → Int) × (Nat → Int)), g i 0 = .int .i64 q.1 ∧ q.2.1 < 2 ^ 63 ∧ Deq (g i 1) (.sl q.2.1 2 (lvF q.2.2.1 q.2.2.2)) := fun i hi => by
    obtain ⟨c, n, g', V, P0, e, hn, he⟩ := level_shp (hall i hi)
    simp [List.range_succ] at e
    exact ⟨(c, n, V, P0), e.1, by unfold maxLen at hn; dsimp only; omega, by rw [e.2]; exact he⟩
  let Q : Nat → Int × Nat × (Nat → Int) × (Nat → Int) := fun i => if h : i < m then (each i h).choose else (0, 0, fun _ => 0, fun _ => 0)
  have hQ : ∀ i, i < m → g i 0 = .int .i64 (Q i).1 ∧ (Q i).2.1 < 2 ^ 63 ∧ Deq (g i 1) (.sl (Q i).2.1 2 (lvF (Q i).2.2.1 (Q i).2.2.2)) := fun i hi => by
    simp only [Q, dif_pos hi]
    exact (each i hi).choose_spec
  refine ⟨m, fun i => (Q i).1, fun i => (Q i).2.1, fun i => (Q i).2.2.1, fun i => (Q i).2.2.2, by unfold maxLen at hm; omega, fun i hi => (hQ i hi).2.1, fun ι H => .d _ _ ((h3 0 (Nat.zero_lt_succ _)).deq (.sl _ _ _ _ fun i j hi hj => ?_))⟩
  match j, hj with
  | 0, _ => exact .of_eq (hQ i hi).1
  | 1, _ => exact (hQ i hi).2.2
theorem ints_open {t e : TypeId} {k : IntKind} (ht : t ∈ argTs) (hu : Tryd.prog.underlying t = some (.slice e)) (hue : Tryd.prog.underlying e = some (.int k)) (hce : Tryd.prog.cellsOf e = 1) (hval : Value.okWide Tryd.prog W r b0 t v) (hd : DataW.Trod enc Tryd.prog W base sp held t v d ps) :
    ∃ (m : Nat) (N : Nat → Int), m < 2 ^ 63 ∧ (∀ i, i < m → (Lit.int k (N i)).wf = true) ∧ ∀ ι H, RepA W (fun b _ => b < W.heap.size) ι H v (.d (.sl m 1 (nsF k N))) := by
  have lim : Lim := ⟨fun _ _ => True⟩
  obtain ⟨a, len, cap, rfl⟩ := okWide_slice hu hval
  obtain ⟨fuel, hf⟩ := hd
  obtain ⟨ds, h1, h2, h3, h4⟩ := trod_open argTs_ok fuel t _ _ ht hf
  obtain ⟨m, g, rfl, hm, hall⟩ := h4.slice_inv hu
  rw [hce] at hall h3
  have each : ∀ i, i < m → g i 0 = .int k (intD (g i 0)) ∧ (Lit.int k (intD (g i 0))).wf = true := fun i hi => by
    obtain ⟨n, e, hw⟩ := (hall i hi).int_inv hue
    simp [List.range_succ] at e
    rw [e]; exact ⟨rfl, hw⟩
  refine ⟨m, fun i => intD (g i 0), by unfold maxLen at hm; omega, fun i hi => (each i hi).2, fun ι H => .d _ _ ((h3 0 (Nat.zero_lt_succ _)).deq (.sl _ _ _ _ fun i j hi hj => .of_eq ?_))⟩
  obtain rfl : j = 0 := by omega
  exact (each i hi).1
end Go.VM

namespace Go.VM
open Go.Proofs Go
set_option maxRecDepth 100000
set_option linter.unusedVariables false
set_option linter.unusedSimpArgs false
structure Py where
  i : Nat
  d : Bool
  m : Nat
  V : Nat → Int
  P : Nat → Int
theorem rput (n : Nat) (V P0 : Nat → Int) (v p : Int) (hn : n < 2 ^ 20) (hasc : ∀ k l, k < l → l < n → V k < V l) : VFun (P ()) 39 [.d (.sl n 2 (lvF V P0)), .agg [.d (.int .i64 v), .d (.int .i64 p)]]
    (fun r => ∃ m V' P', lst V' P' m = putL (v, p) (lst V P0 n) ∧ m ≤ n + 1 ∧ r = .d (.sl m 2 (lvF V' P'))) := by
  refine vfunO (Tf := @T) @tabOk [] 400 Tryd.func39 rfl (fun {_} => by kernel_rfl) rfl (Nat.le_of_ble_eq_true rfl) @fun ⟨_, _, _, _, _, _, _, _, _, _, _, _, _, _, _, _, _, _, _, _, _, _, _, _, _, _, _, _, _, _, _, _, _, _, _, _, _, _, wp, wf⟩ R hR => ?_
  cbv
  try simp only [wp, (show ∀ n : Nat, _ = n from fun n => wf.2.2.2.2.2.2.2.2.2.2.2.2.2.1 (Int.ofNat n)), getL, takeL, dropL, TK.isAgg, reduceIte]
  replace hR := fun m V' P' H r h1 h2 hf => hR r H (.d (.sl m 2 (lvF V' P'))) hf ⟨m, V', P', h1, h2, rfl⟩
  refine loopGhost 5 2 rfl ?_
  refine loopO (Tf := @T) @tabOk [] 400 (fun y : Py => ⟨[.d (.sl n 2 (lvF V P0)), .undef, .undef, .ptr 0 0, .undef, .ref 1 0 y.m 2, .d (.bool y.d), .d (.int .i64 y.i), .undef, .undef, .undef, .undef, .undef, .undef, .undef, .undef, .undef, .undef, .undef, .undef, .undef, .undef, .undef, .undef, .undef, .undef, .undef, .undef, .undef, .undef, .undef, .undef, .undef, .undef, .undef, .undef, .undef, .undef, .undef, .undef, .undef, .undef, .undef, .undef, .undef, .undef, .undef, .undef, .undef, .undef, .undef, .undef, .undef, .undef], [.box [.d (.int .i64 v), .d (.int .i64 p)], .arr y.m 2 (lvF y.V y.P) 0]⟩) (fun y => n - y.i) (fun y => y.i ≤ n ∧ y.m ≤ y.i + 1 ∧ (y.d = false → y.m ≤ y.i) ∧ PutS V P0 v p y.i y.d (lst y.V y.P y.m)) ⟨0, false, 0, V, P0⟩ ⟨Nat.zero_le _, Nat.zero_le _, fun _ => Nat.zero_le _, .zero _ _ _ _⟩ (fun {_} => by kernel_rfl) ?_ (fun i => by kernel_rfl) @fun ⟨_, _, _, _, _, _, _, _, _, _, _, _, _, _, _, _, _, _, _, _, _, _, _, _, _, _, _, _, _, _, _, _, _, _, _, _, _, _, wpa, wfa⟩ ⟨i, d, m, V1, P1⟩ Bk hi hBk => ?_
  · (cbv; try simp only [wf, exD, exL, exT, exB, exA, leLs, leL_d, leL_undef, leL_nils, leA_nils, deq_refl, deq_int, deq_bool, deq_str, and_true, true_and, AObj.iter.injEq, nc, nc']; try simp (disch := omega) only [w64, w32, wu8])
    exact ⟨rfl, Nat.le_refl _, Nat.le_refl _, fun i j hi => absurd hi (Nat.not_lt_zero _)⟩
  obtain ⟨i1, i2, i3, i4⟩ := hi
  dsimp only at i1 i2 i3 i4
  cases d
  · have i3 := i3 rfl
    (cbv; try simp only [wp, (show ∀ n : Nat, _ = n from fun n => wf.2.2.2.2.2.2.2.2.2.2.2.2.2.1 (Int.ofNat n)), (show _ = (0 : Nat) from wf.2.2.2.2.2.2.2.2.2.2.2.2.2.1 0), wpa, (show ∀ n : Nat, _ = n from fun n => wfa.2.2.2.2.2.2.2.2.2.2.2.2.2.1 (Int.ofNat n)), (show _ = (0 : Nat) from wfa.2.2.2.2.2.2.2.2.2.2.2.2.2.1 0), getL, takeL, dropL, TK.isAgg, reduceIte])
    refine ⟨fun e => ?_, fun e => ?_⟩
    · have e : i < n := (by (try simp only [wf, wfa, nc, nc', Int.toNat_natCast, bsz, ByteArray.size_append, List.length_cons, List.length_nil] at *); (try simp (disch := omega) only [w64, w32, wu8] at *); first | done | omega)
      (refine Later.mk ?_; cbv; try simp only [wp, (show ∀ n : Nat, _ = n from fun n => wf.2.2.2.2.2.2.2.2.2.2.2.2.2.1 (Int.ofNat n)), (show _ = (0 : Nat) from wf.2.2.2.2.2.2.2.2.2.2.2.2.2.1 0), wpa, (show ∀ n : Nat, _ = n from fun n => wfa.2.2.2.2.2.2.2.2.2.2.2.2.2.1 (Int.ofNat n)), (show _ = (0 : Nat) from wfa.2.2.2.2.2.2.2.2.2.2.2.2.2.1 0), getL, takeL, dropL, TK.isAgg, reduceIte])
      repeat' first | with_reducible refine And.intro ?_ ?_ | intro c9
      all_goals first | exact (by (try simp only [wf, wfa, nc, nc', Int.toNat_natCast, bsz, ByteArray.size_append, List.length_cons, List.length_nil] at *); (try simp (disch := omega) only [w64, w32, wu8] at *); first | done | omega) | trivial | skip
      all_goals (refine Later.mk ?_; cbv; try simp only [wp, (show ∀ n : Nat, _ = n from fun n => wf.2.2.2.2.2.2.2.2.2.2.2.2.2.1 (Int.ofNat n)), (show _ = (0 : Nat) from wf.2.2.2.2.2.2.2.2.2.2.2.2.2.1 0), wpa, (show ∀ n : Nat, _ = n from fun n => wfa.2.2.2.2.2.2.2.2.2.2.2.2.2.1 (Int.ofNat n)), (show _ = (0 : Nat) from wfa.2.2.2.2.2.2.2.2.2.2.2.2.2.1 0), getL, takeL, dropL, TK.isAgg, reduceIte])
      all_goals
        repeat' first | with_reducible refine And.intro ?_ ?_ | intro c9
        all_goals first | exact (by (try simp only [wf, wfa, nc, nc', Int.toNat_natCast, bsz, ByteArray.size_append, List.length_cons, List.length_nil] at *); (try simp (disch := omega) only [w64, w32, wu8] at *); first | done | omega) | trivial | skip
      all_goals (refine Later.mk ?_; cbv; try simp only [wp, (show ∀ n : Nat, _ = n from fun n => wf.2.2.2.2.2.2.2.2.2.2.2.2.2.1 (Int.ofNat n)), (show _ = (0 : Nat) from wf.2.2.2.2.2.2.2.2.2.2.2.2.2.1 0), wpa, (show ∀ n : Nat, _ = n from fun n => wfa.2.2.2.2.2.2.2.2.2.2.2.2.2.1 (Int.ofNat n)), (show _ = (0 : Nat) from wfa.2.2.2.2.2.2.2.2.2.2.2.2.2.1 0), getL, takeL, dropL, TK.isAgg, reduceIte])
      all_goals
        repeat' first | with_reducible refine And.intro ?_ ?_ | intro c9
        all_goals first | exact (by (try simp only [wf, wfa, nc, nc', Int.toNat_natCast, bsz, ByteArray.size_append, List.length_cons, List.length_nil] at *); (try simp (disch := omega) only [w64, w32, wu8] at *); first | done | omega) | trivial | skip
      · have hv : v < V i := (by (try simp only [wf, wfa, nc, nc', Int.toNat_natCast, bsz, ByteArray.size_append, List.length_cons, List.length_nil] at *); (try simp (disch := omega) only [w64, w32, wu8] at *); first | done | omega)
        refine hBk ⟨i + 1, true, m + 1 + 1, ext (ext V1 m v) (m + 1) (V i), ext (ext P1 m p) (m + 1) (P0 i)⟩ _ (by dsimp only; omega) ⟨by dsimp only; omega, by dsimp only; omega, fun h => (by cases h), by dsimp only; rw [lst_ext, lst_ext]; exact i4.lt hv⟩ ?_
        (cbv; try simp only [wf, wfa, exD, exL, exT, exB, exA, leLs, leL_d, leL_undef, leL_nils, leA_nils, deq_refl, deq_int, deq_bool, deq_str, and_true, true_and, AObj.iter.injEq, nc, nc']; try simp (disch := omega) only [w64, w32, wu8])
        ((try simp only [wf, wfa, nc, nc', Int.toNat_natCast, bsz, ByteArray.size_append, List.length_cons, List.length_nil] at *); (try simp (disch := omega) only [w64, w32, wu8] at *))
        exact ⟨by omega, by omega, Nat.zero_le _, fun x j hx hj => .of_eq (ext_row2 V1 P1 m v p (V i) (P0 i) x j hx hj)⟩
      · have hv : v = V i := (by (try simp only [wf, wfa, nc, nc', Int.toNat_natCast, bsz, ByteArray.size_append, List.length_cons, List.length_nil] at *); (try simp (disch := omega) only [w64, w32, wu8] at *); first | done | omega)
        obtain ⟨q, hq⟩ : ∃ q, q = max p (P0 i) := ⟨_, rfl⟩
        refine hBk ⟨i + 1, true, m + 1, ext V1 m (V i), ext P1 m (q)⟩ _ (by dsimp only; omega) ⟨by dsimp only; omega, by dsimp only; omega, fun h => (by cases h), by dsimp only; rw [lst_ext]; exact (by rw [hq]; exact i4.eq hv)⟩ ?_
        (cbv; try simp only [wf, wfa, exD, exL, exT, exB, exA, leLs, leL_d, leL_undef, leL_nils, leA_nils, deq_refl, deq_int, deq_bool, deq_str, and_true, true_and, AObj.iter.injEq, nc, nc']; try simp (disch := omega) only [w64, w32, wu8])
        ((try simp only [wf, wfa, nc, nc', Int.toNat_natCast, bsz, ByteArray.size_append, List.length_cons, List.length_nil] at *); (try simp (disch := omega) only [w64, w32, wu8] at *))
        rw [show (if p < P0 i then P0 i else p) = q by rw [hq]; split <;> omega]
        exact ⟨by omega, by omega, Nat.zero_le _, fun x j hx hj => .of_eq (ext_row V1 P1 m (V i) _ x j hx hj)⟩
      · have hv : V i < v := (by (try simp only [wf, wfa, nc, nc', Int.toNat_natCast, bsz, ByteArray.size_append, List.length_cons, List.length_nil] at *); (try simp (disch := omega) only [w64, w32, wu8] at *); first | done | omega)
        refine hBk ⟨i + 1, false, m + 1, ext V1 m (V i), ext P1 m (P0 i)⟩ _ (by dsimp only; omega) ⟨by dsimp only; omega, by dsimp only; omega, fun _ => (by dsimp only; omega), by dsimp only; rw [lst_ext]; exact i4.gt hv⟩ ?_
        (cbv; try simp only [wf, wfa, exD, exL, exT, exB, exA, leLs, leL_d, leL_undef, leL_nils, leA_nils, deq_refl, deq_int, deq_bool, deq_str, and_true, true_and, AObj.iter.injEq, nc, nc']; try simp (disch := omega) only [w64, w32, wu8])
        ((try simp only [wf, wfa, nc, nc', Int.toNat_natCast, bsz, ByteArray.size_append, List.length_cons, List.length_nil] at *); (try simp (disch := omega) only [w64, w32, wu8] at *))
        exact ⟨by omega, by omega, Nat.zero_le _, fun x j hx hj => .of_eq (ext_row V1 P1 m (V i) _ x j hx hj)⟩
    · obtain rfl : i = n := (by (try simp only [wf, wfa, nc, nc', Int.toNat_natCast, bsz, ByteArray.size_append, List.length_cons, List.length_nil] at *); (try simp (disch := omega) only [w64, w32, wu8] at *); first | done | omega)
      (refine Later.mk ?_; cbv; try simp only [wp, (show ∀ n : Nat, _ = n from fun n => wf.2.2.2.2.2.2.2.2.2.2.2.2.2.1 (Int.ofNat n)), (show _ = (0 : Nat) from wf.2.2.2.2.2.2.2.2.2.2.2.2.2.1 0), wpa, (show ∀ n : Nat, _ = n from fun n => wfa.2.2.2.2.2.2.2.2.2.2.2.2.2.1 (Int.ofNat n)), (show _ = (0 : Nat) from wfa.2.2.2.2.2.2.2.2.2.2.2.2.2.1 0), getL, takeL, dropL, TK.isAgg, reduceIte])
      (refine Later.mk ?_; cbv; try simp only [wp, (show ∀ n : Nat, _ = n from fun n => wf.2.2.2.2.2.2.2.2.2.2.2.2.2.1 (Int.ofNat n)), (show _ = (0 : Nat) from wf.2.2.2.2.2.2.2.2.2.2.2.2.2.1 0), wpa, (show ∀ n : Nat, _ = n from fun n => wfa.2.2.2.2.2.2.2.2.2.2.2.2.2.1 (Int.ofNat n)), (show _ = (0 : Nat) from wfa.2.2.2.2.2.2.2.2.2.2.2.2.2.1 0), getL, takeL, dropL, TK.isAgg, reduceIte])
      repeat' first | trivial | with_reducible refine And.intro ?_ ?_ | intro c9
      all_goals first | exact (by (try simp only [wf, wfa, nc, nc', Int.toNat_natCast, bsz, ByteArray.size_append, List.length_cons, List.length_nil] at *); (try simp (disch := omega) only [w64, w32, wu8] at *); first | done | omega) | skip
      refine hR (m + 1) (ext V1 m v) (ext P1 m p) _ _ (by rw [lst_ext]; exact i4.fin.2 rfl) (by omega) ?_
      ((try simp only [wf, wfa, nc, nc', Int.toNat_natCast, bsz, ByteArray.size_append, List.length_cons, List.length_nil] at *); (try simp (disch := omega) only [w64, w32, wu8] at *))
      exact .deq _ _ _ (.ref0 1 (m + 1) 2 (m + 1) 0 _ rfl rfl) (.sl _ _ _ _ fun x j hx hj => .of_eq (ext_row V1 P1 m v p x j hx hj))
  · (cbv; try simp only [wp, (show ∀ n : Nat, _ = n from fun n => wf.2.2.2.2.2.2.2.2.2.2.2.2.2.1 (Int.ofNat n)), (show _ = (0 : Nat) from wf.2.2.2.2.2.2.2.2.2.2.2.2.2.1 0), wpa, (show ∀ n : Nat, _ = n from fun n => wfa.2.2.2.2.2.2.2.2.2.2.2.2.2.1 (Int.ofNat n)), (show _ = (0 : Nat) from wfa.2.2.2.2.2.2.2.2.2.2.2.2.2.1 0), getL, takeL, dropL, TK.isAgg, reduceIte])
    refine ⟨fun e => ?_, fun e => ?_⟩
    · have e : i < n := (by (try simp only [wf, wfa, nc, nc', Int.toNat_natCast, bsz, ByteArray.size_append, List.length_cons, List.length_nil] at *); (try simp (disch := omega) only [w64, w32, wu8] at *); first | done | omega)
      (refine Later.mk ?_; cbv; try simp only [wp, (show ∀ n : Nat, _ = n from fun n => wf.2.2.2.2.2.2.2.2.2.2.2.2.2.1 (Int.ofNat n)), (show _ = (0 : Nat) from wf.2.2.2.2.2.2.2.2.2.2.2.2.2.1 0), wpa, (show ∀ n : Nat, _ = n from fun n => wfa.2.2.2.2.2.2.2.2.2.2.2.2.2.1 (Int.ofNat n)), (show _ = (0 : Nat) from wfa.2.2.2.2.2.2.2.2.2.2.2.2.2.1 0), getL, takeL, dropL, TK.isAgg, reduceIte])
      repeat' first | with_reducible refine And.intro ?_ ?_ | intro c9
      all_goals first | exact (by (try simp only [wf, wfa, nc, nc', Int.toNat_natCast, bsz, ByteArray.size_append, List.length_cons, List.length_nil] at *); (try simp (disch := omega) only [w64, w32, wu8] at *); first | done | omega) | trivial | skip
      all_goals (refine Later.mk ?_; cbv; try simp only [wp, (show ∀ n : Nat, _ = n from fun n => wf.2.2.2.2.2.2.2.2.2.2.2.2.2.1 (Int.ofNat n)), (show _ = (0 : Nat) from wf.2.2.2.2.2.2.2.2.2.2.2.2.2.1 0), wpa, (show ∀ n : Nat, _ = n from fun n => wfa.2.2.2.2.2.2.2.2.2.2.2.2.2.1 (Int.ofNat n)), (show _ = (0 : Nat) from wfa.2.2.2.2.2.2.2.2.2.2.2.2.2.1 0), getL, takeL, dropL, TK.isAgg, reduceIte])
      all_goals
        repeat' first | with_reducible refine And.intro ?_ ?_ | intro c9
        all_goals first | exact (by (try simp only [wf, wfa, nc, nc', Int.toNat_natCast, bsz, ByteArray.size_append, List.length_cons, List.length_nil] at *); (try simp (disch := omega) only [w64, w32, wu8] at *); first | done | omega) | trivial | skip
      all_goals obtain ⟨hv, i5⟩ := i4.up hasc e
      · exact absurd (show v = V i by assumption) (by omega)
      · (refine Later.mk ?_; cbv; try simp only [wp, (show ∀ n : Nat, _ = n from fun n => wf.2.2.2.2.2.2.2.2.2.2.2.2.2.1 (Int.ofNat n)), (show _ = (0 : Nat) from wf.2.2.2.2.2.2.2.2.2.2.2.2.2.1 0), wpa, (show ∀ n : Nat, _ = n from fun n => wfa.2.2.2.2.2.2.2.2.2.2.2.2.2.1 (Int.ofNat n)), (show _ = (0 : Nat) from wfa.2.2.2.2.2.2.2.2.2.2.2.2.2.1 0), getL, takeL, dropL, TK.isAgg, reduceIte])
        repeat' first | with_reducible refine And.intro ?_ ?_ | intro c9
        all_goals first | exact (by (try simp only [wf, wfa, nc, nc', Int.toNat_natCast, bsz, ByteArray.size_append, List.length_cons, List.length_nil] at *); (try simp (disch := omega) only [w64, w32, wu8] at *); first | done | omega) | trivial | skip
        refine hBk ⟨i + 1, true, m + 1, ext V1 m (V i), ext P1 m (P0 i)⟩ _ (by dsimp only; omega) ⟨by dsimp only; omega, by dsimp only; omega, fun h => (by cases h), by dsimp only; rw [lst_ext]; exact i5⟩ ?_
        (cbv; try simp only [wf, wfa, exD, exL, exT, exB, exA, leLs, leL_d, leL_undef, leL_nils, leA_nils, deq_refl, deq_int, deq_bool, deq_str, and_true, true_and, AObj.iter.injEq, nc, nc']; try simp (disch := omega) only [w64, w32, wu8])
        ((try simp only [wf, wfa, nc, nc', Int.toNat_natCast, bsz, ByteArray.size_append, List.length_cons, List.length_nil] at *); (try simp (disch := omega) only [w64, w32, wu8] at *))
        exact ⟨by omega, by omega, Nat.zero_le _, fun x j hx hj => .of_eq (ext_row V1 P1 m (V i) _ x j hx hj)⟩
    · obtain rfl : i = n := (by (try simp only [wf, wfa, nc, nc', Int.toNat_natCast, bsz, ByteArray.size_append, List.length_cons, List.length_nil] at *); (try simp (disch := omega) only [w64, w32, wu8] at *); first | done | omega)
      (refine Later.mk ?_; cbv; try simp only [wp, (show ∀ n : Nat, _ = n from fun n => wf.2.2.2.2.2.2.2.2.2.2.2.2.2.1 (Int.ofNat n)), (show _ = (0 : Nat) from wf.2.2.2.2.2.2.2.2.2.2.2.2.2.1 0), wpa, (show ∀ n : Nat, _ = n from fun n => wfa.2.2.2.2.2.2.2.2.2.2.2.2.2.1 (Int.ofNat n)), (show _ = (0 : Nat) from wfa.2.2.2.2.2.2.2.2.2.2.2.2.2.1 0), getL, takeL, dropL, TK.isAgg, reduceIte])
      (refine Later.mk ?_; cbv; try simp only [wp, (show ∀ n : Nat, _ = n from fun n => wf.2.2.2.2.2.2.2.2.2.2.2.2.2.1 (Int.ofNat n)), (show _ = (0 : Nat) from wf.2.2.2.2.2.2.2.2.2.2.2.2.2.1 0), wpa, (show ∀ n : Nat, _ = n from fun n => wfa.2.2.2.2.2.2.2.2.2.2.2.2.2.1 (Int.ofNat n)), (show _ = (0 : Nat) from wfa.2.2.2.2.2.2.2.2.2.2.2.2.2.1 0), getL, takeL, dropL, TK.isAgg, reduceIte])
      repeat' first | trivial | with_reducible refine And.intro ?_ ?_ | intro c9
      all_goals first | exact (by (try simp only [wf, wfa, nc, nc', Int.toNat_natCast, bsz, ByteArray.size_append, List.length_cons, List.length_nil] at *); (try simp (disch := omega) only [w64, w32, wu8] at *); first | done | omega) | skip
      exact hR m V1 P1 _ _ (i4.fin.1 rfl) (by omega) (.ref0 1 m 2 m 0 _ rfl rfl)
end Go.VM

namespace Go.VM
open Go.Proofs Go
set_option maxRecDepth 100000
set_option linter.unusedVariables false
set_option linter.unusedSimpArgs false
theorem rmore (c : Int) (n : Nat) (V P0 Q : Nat → Int) (p : Int) (hn : n < 2 ^ 20) (hp : ∀ i, i < n → -100000 ≤ P0 i ∧ P0 i ≤ 100000) (hp2 : -100000 ≤ p ∧ p ≤ 100000) (hQ : ∀ i, i < n → Q i = P0 i + p) : VCalls (P ()) 43 [lv c n V P0, .d (.int .i64 p)] []
    (fun r H => ∃ G, r = .ref 1 0 n 2 ∧ H = [.box [.d (.int .i64 c), .d (.sl n 2 (lvF V P0))], .arr n 2 (lvF V Q) 0] ++ G) := by
  refine VCalls_of_Wo (Tf := @T) @tabOk [(5, upF 0 19)] 400 Tryd.func43 rfl (fun {_} => by kernel_rfl) (Nat.le_of_ble_eq_true rfl) @fun ⟨_, _, _, _, _, _, _, _, _, _, _, _, _, _, _, _, _, _, _, _, _, _, _, _, _, _, _, _, _, _, _, _, _, _, _, _, _, _, wp, wf⟩ nH R hnH hR => ?_
  subst hnH
  cbv
  try simp only [wp, (show ∀ n : Nat, _ = n from fun n => wf.2.2.2.2.2.2.2.2.2.2.2.2.2.1 (Int.ofNat n)), getL, takeL, dropL, TK.isAgg, reduceIte]
  replace hR := fun G => hR (.ref 1 0 n 2) _ ⟨G, rfl, rfl⟩
  refine loopGhost 5 2 rfl ?_
  refine loopO (Tf := @T) @tabOk [(5, upF 0 19)] 400 (fun i : Nat => ⟨[.undef, .d (.int .i64 p), .ptr 0 0, .undef, .undef, .ref 1 0 i 2, .d (.int .i64 i), .undef, .undef, .undef, .undef, .undef, .undef, .undef, .undef, .undef, .undef, .undef, .undef, .undef, .undef, .undef, .undef, .undef, .undef, .undef, .undef, .undef, .undef, .undef, .undef, .undef, .undef], [.box [.d (.int .i64 c), .d (.sl n 2 (lvF V P0))], .arr i 2 (lvF V Q) 0]⟩) (fun i => n - i) (fun i => i ≤ n) 0 (Nat.zero_le _) (fun {_} => by kernel_rfl) ?_ (fun i => by kernel_rfl) @fun ⟨_, _, _, _, _, _, _, _, _, _, _, _, _, _, _, _, _, _, _, _, _, _, _, _, _, _, _, _, _, _, _, _, _, _, _, _, _, _, wpa, wfa⟩ i Bk hi hBk => ?_
  · (cbv; try simp only [wf, exD, exL, exT, exB, exA, leLs, leL_d, leL_undef, leL_nils, leA_nils, deq_refl, deq_int, deq_bool, deq_str, and_true, true_and, AObj.iter.injEq, nc, nc']; try simp (disch := omega) only [w64, w32, wu8])
    exact ⟨rfl, Nat.le_refl _, Nat.le_refl _, fun i j hi => absurd hi (Nat.not_lt_zero _)⟩
  (cbv; try simp only [wp, (show ∀ n : Nat, _ = n from fun n => wf.2.2.2.2.2.2.2.2.2.2.2.2.2.1 (Int.ofNat n)), (show _ = (0 : Nat) from wf.2.2.2.2.2.2.2.2.2.2.2.2.2.1 0), wpa, (show ∀ n : Nat, _ = n from fun n => wfa.2.2.2.2.2.2.2.2.2.2.2.2.2.1 (Int.ofNat n)), (show _ = (0 : Nat) from wfa.2.2.2.2.2.2.2.2.2.2.2.2.2.1 0), getL, takeL, dropL, TK.isAgg, reduceIte])
  refine ⟨fun e => ?_, fun e => ?_⟩
  · have e : i < n := (by (try simp only [wf, wfa, nc, nc', Int.toNat_natCast, bsz, ByteArray.size_append, List.length_cons, List.length_nil] at *); (try simp (disch := omega) only [w64, w32, wu8] at *); first | done | omega)
    have hpi := hp i e
    have hqi := hQ i e
    (refine Later.mk ?_; cbv; try simp only [wp, (show ∀ n : Nat, _ = n from fun n => wf.2.2.2.2.2.2.2.2.2.2.2.2.2.1 (Int.ofNat n)), (show _ = (0 : Nat) from wf.2.2.2.2.2.2.2.2.2.2.2.2.2.1 0), wpa, (show ∀ n : Nat, _ = n from fun n => wfa.2.2.2.2.2.2.2.2.2.2.2.2.2.1 (Int.ofNat n)), (show _ = (0 : Nat) from wfa.2.2.2.2.2.2.2.2.2.2.2.2.2.1 0), getL, takeL, dropL, TK.isAgg, reduceIte])
    repeat' first | with_reducible refine And.intro ?_ ?_ | intro c9
    all_goals first | exact (by (try simp only [wf, wfa, nc, nc', Int.toNat_natCast, bsz, ByteArray.size_append, List.length_cons, List.length_nil] at *); (try simp (disch := omega) only [w64, w32, wu8] at *); first | done | omega) | trivial | skip
    refine hBk (i + 1) _ (by omega) (by omega) ?_
    (cbv; try simp only [wf, wfa, exD, exL, exT, exB, exA, leLs, leL_d, leL_undef, leL_nils, leA_nils, deq_refl, deq_int, deq_bool, deq_str, and_true, true_and, AObj.iter.injEq, nc, nc']; try simp (disch := omega) only [w64, w32, wu8])
    ((try simp only [wf, wfa, nc, nc', Int.toNat_natCast, bsz, ByteArray.size_append, List.length_cons, List.length_nil] at *); (try simp (disch := omega) only [w64, w32, wu8] at *))
    rw [← hqi]
    exact ⟨by omega, Nat.le_refl _, Nat.zero_le _, fun x j hx hj => .of_eq (app_row2 (g' := lvF V Q) (fun _ _ _ _ => rfl) (fun j hj => by
      match j, hj with
      | 0, _ => rfl
      | 1, _ => rfl) x j hx hj)⟩
  · obtain rfl : i = n := (by (try simp only [wf, wfa, nc, nc', Int.toNat_natCast, bsz, ByteArray.size_append, List.length_cons, List.length_nil] at *); (try simp (disch := omega) only [w64, w32, wu8] at *); first | done | omega)
    (refine Later.mk ?_; cbv; try simp only [wp, (show ∀ n : Nat, _ = n from fun n => wf.2.2.2.2.2.2.2.2.2.2.2.2.2.1 (Int.ofNat n)), (show _ = (0 : Nat) from wf.2.2.2.2.2.2.2.2.2.2.2.2.2.1 0), wpa, (show ∀ n : Nat, _ = n from fun n => wfa.2.2.2.2.2.2.2.2.2.2.2.2.2.1 (Int.ofNat n)), (show _ = (0 : Nat) from wfa.2.2.2.2.2.2.2.2.2.2.2.2.2.1 0), getL, takeL, dropL, TK.isAgg, reduceIte])
    exact hR []
theorem fits (c : Int) (n : Nat) (V P0 : Nat → Int) (hn : n < 2 ^ 20) : VFun (P ()) 41 [lv c n V P0] (LvRes (if c > 1000 ∨ mostL (lst V P0 n) > 1000 ∨ (lst V P0 n).length > 8 then none else some (c, lst V P0 n)) 2) := by
  refine vfunO (Tf := @T) @tabOk [] 400 Tryd.func41 rfl (fun {_} => by kernel_rfl) rfl (Nat.le_of_ble_eq_true rfl) @fun ⟨_, _, _, _, _, _, _, _, _, _, _, _, _, _, _, _, _, _, _, _, _, _, _, _, _, _, _, _, _, _, _, _, _, _, _, _, _, _, wp, wf⟩ R hR => ?_
  cbv
  try simp only [wp, (show ∀ n : Nat, _ = n from fun n => wf.2.2.2.2.2.2.2.2.2.2.2.2.2.1 (Int.ofNat n)), getL, takeL, dropL, TK.isAgg, reduceIte]
  rw [mostF_lst, lst_length] at hR
  obtain ⟨o, ho⟩ : ∃ o, o = (if c > 1000 ∨ mostF P0 n > 1000 ∨ n > 8 then none else some (c, lst V P0 n)) := ⟨_, rfl⟩
  rw [← ho] at hR
  have bad : c > 1000 ∨ mostF P0 n > 1000 ∨ n > 8 → ∀ H, R (.tup [.agg [.d (.int .i64 0), .nils], .d (.int .i64 2)]) H := fun h H => by
    rw [if_pos h] at ho
    exact hR _ H (.tup [lv 0 0 V P0, .d (.int .i64 2)]) (.tup2 (.agg2 (.d _) (.nils _ _)) (.d _)) ⟨0, 0, V, P0, 2, rfl, by decide, fun _ => ⟨rfl, rfl, rfl⟩, fun x hx => by rw [ho] at hx; cases hx⟩
  have good : ¬ (c > 1000 ∨ mostF P0 n > 1000 ∨ n > 8) → ∀ H, R (.tup [lv c n V P0, .d (.int .i64 0)]) H := fun h H => by
    rw [if_neg h] at ho
    exact hR _ H (.tup [lv c n V P0, .d (.int .i64 0)]) (.tup2 (.agg2 (.d _) (.d _)) (.d _)) ⟨c, n, V, P0, 0, rfl, by omega, fun h => (by rw [ho] at h; cases h), fun x hx => by rw [ho] at hx; cases hx; exact ⟨rfl, rfl, rfl⟩⟩
  clear hR ho
  repeat' first | with_reducible refine And.intro ?_ ?_ | intro c9
  all_goals (refine Later.mk ?_; cbv; try simp only [wp, (show ∀ n : Nat, _ = n from fun n => wf.2.2.2.2.2.2.2.2.2.2.2.2.2.1 (Int.ofNat n)), (show _ = (0 : Nat) from wf.2.2.2.2.2.2.2.2.2.2.2.2.2.1 0), getL, takeL, dropL, TK.isAgg, reduceIte])
  · exact bad (.inr (.inr (by (try simp only [wf, nc, nc', Int.toNat_natCast, bsz, ByteArray.size_append, List.length_cons, List.length_nil] at *); (try simp (disch := omega) only [w64, w32, wu8] at *); first | done | omega))) _
  · exact bad (.inl (by (try simp only [wf, nc, nc', Int.toNat_natCast, bsz, ByteArray.size_append, List.length_cons, List.length_nil] at *); (try simp (disch := omega) only [w64, w32, wu8] at *); first | done | omega)) _
  · obtain ⟨mF, hmF⟩ : ∃ f_, f_ = mostF P0 := ⟨_, rfl⟩
    have m0 : mF 0 = -1 := by rw [hmF]; rfl
    have m1 : ∀ i, mF (i + 1) = max (mF i) (P0 i) := fun i => by rw [hmF]; rfl
    have m2 : ∀ i, i < n → P0 i ≤ mF n := fun i hi => by rw [hmF]; exact mostF_le P0 n i hi
    rw [← hmF] at bad good
    have c8 : n ≤ 8 := (by (try simp only [wf, nc, nc', Int.toNat_natCast, bsz, ByteArray.size_append, List.length_cons, List.length_nil] at *); (try simp (disch := omega) only [w64, w32, wu8] at *); first | done | omega)
    have c7 : c ≤ 1000 := (by (try simp only [wf, nc, nc', Int.toNat_natCast, bsz, ByteArray.size_append, List.length_cons, List.length_nil] at *); (try simp (disch := omega) only [w64, w32, wu8] at *); first | done | omega)
    refine loopO (Tf := @T) @tabOk [] 400 (fun i : Nat => ⟨[lv c n V P0, .ptr 0 0, .ptr 1 0, .undef, .d (.int .i64 i), .undef, .undef, .undef, .undef, .undef, .undef, .undef, .undef, .undef, .undef, .undef, .undef, .undef, .undef, .undef, .undef, .undef, .undef, .undef, .undef, .undef, .undef, .undef, .undef, .undef, .undef], [.box [.d (.int .i64 c), .d (.sl n 2 (lvF V P0))], .box [.d (.int .i64 0), .d (.sl 0 2 (lvF V P0))]]⟩) (fun i => n - i) (fun i => i ≤ n ∧ mF i ≤ 1000) 0 ⟨Nat.zero_le _, by omega⟩ (fun {_} => by kernel_rfl) ?_ (fun i => by kernel_rfl) @fun ⟨_, _, _, _, _, _, _, _, _, _, _, _, _, _, _, _, _, _, _, _, _, _, _, _, _, _, _, _, _, _, _, _, _, _, _, _, _, _, wpa, wfa⟩ i Bk hi hBk => ?_
    · ((cbv; try simp only [wf, exD, exL, exT, exB, exA, leLs, leL_d, leL_undef, leL_nils, leA_nils, deq_refl, deq_int, deq_bool, deq_str, and_true, true_and, AObj.iter.injEq, nc, nc']; try simp (disch := omega) only [w64, w32, wu8]); first | done | rfl | omega | (simp; done) | (simp; omega) | skip)
    (cbv; try simp only [wp, (show ∀ n : Nat, _ = n from fun n => wf.2.2.2.2.2.2.2.2.2.2.2.2.2.1 (Int.ofNat n)), (show _ = (0 : Nat) from wf.2.2.2.2.2.2.2.2.2.2.2.2.2.1 0), wpa, (show ∀ n : Nat, _ = n from fun n => wfa.2.2.2.2.2.2.2.2.2.2.2.2.2.1 (Int.ofNat n)), (show _ = (0 : Nat) from wfa.2.2.2.2.2.2.2.2.2.2.2.2.2.1 0), getL, takeL, dropL, TK.isAgg, reduceIte])
    obtain ⟨i1, i2⟩ := hi
    refine ⟨fun e => ?_, fun e => ?_⟩
    · have e : i < n := (by (try simp only [wf, wfa, nc, nc', Int.toNat_natCast, bsz, ByteArray.size_append, List.length_cons, List.length_nil] at *); (try simp (disch := omega) only [w64, w32, wu8] at *); first | done | omega)
      have := m1 i
      have := m2 i e
      (refine Later.mk ?_; cbv; try simp only [wp, (show ∀ n : Nat, _ = n from fun n => wf.2.2.2.2.2.2.2.2.2.2.2.2.2.1 (Int.ofNat n)), (show _ = (0 : Nat) from wf.2.2.2.2.2.2.2.2.2.2.2.2.2.1 0), wpa, (show ∀ n : Nat, _ = n from fun n => wfa.2.2.2.2.2.2.2.2.2.2.2.2.2.1 (Int.ofNat n)), (show _ = (0 : Nat) from wfa.2.2.2.2.2.2.2.2.2.2.2.2.2.1 0), getL, takeL, dropL, TK.isAgg, reduceIte])
      repeat' first | with_reducible refine And.intro ?_ ?_ | intro c9
      all_goals first | exact (by (try simp only [wf, wfa, nc, nc', Int.toNat_natCast, bsz, ByteArray.size_append, List.length_cons, List.length_nil] at *); (try simp (disch := omega) only [w64, w32, wu8] at *); first | done | omega) | trivial | skip
      · (refine Later.mk ?_; cbv; try simp only [wp, (show ∀ n : Nat, _ = n from fun n => wf.2.2.2.2.2.2.2.2.2.2.2.2.2.1 (Int.ofNat n)), (show _ = (0 : Nat) from wf.2.2.2.2.2.2.2.2.2.2.2.2.2.1 0), wpa, (show ∀ n : Nat, _ = n from fun n => wfa.2.2.2.2.2.2.2.2.2.2.2.2.2.1 (Int.ofNat n)), (show _ = (0 : Nat) from wfa.2.2.2.2.2.2.2.2.2.2.2.2.2.1 0), getL, takeL, dropL, TK.isAgg, reduceIte])
        exact bad (.inr (.inl (by (try simp only [wf, wfa, nc, nc', Int.toNat_natCast, bsz, ByteArray.size_append, List.length_cons, List.length_nil] at *); (try simp (disch := omega) only [w64, w32, wu8] at *); first | done | omega))) _
      · (refine Later.mk ?_; cbv; try simp only [wp, (show ∀ n : Nat, _ = n from fun n => wf.2.2.2.2.2.2.2.2.2.2.2.2.2.1 (Int.ofNat n)), (show _ = (0 : Nat) from wf.2.2.2.2.2.2.2.2.2.2.2.2.2.1 0), wpa, (show ∀ n : Nat, _ = n from fun n => wfa.2.2.2.2.2.2.2.2.2.2.2.2.2.1 (Int.ofNat n)), (show _ = (0 : Nat) from wfa.2.2.2.2.2.2.2.2.2.2.2.2.2.1 0), getL, takeL, dropL, TK.isAgg, reduceIte])
        refine hBk (i + 1) _ (by omega) ⟨by omega, (by (try simp only [wf, wfa, nc, nc', Int.toNat_natCast, bsz, ByteArray.size_append, List.length_cons, List.length_nil] at *); (try simp (disch := omega) only [w64, w32, wu8] at *); first | done | omega)⟩ ?_
        ((cbv; try simp only [wf, wfa, exD, exL, exT, exB, exA, leLs, leL_d, leL_undef, leL_nils, leA_nils, deq_refl, deq_int, deq_bool, deq_str, and_true, true_and, AObj.iter.injEq, nc, nc']; try simp (disch := omega) only [w64, w32, wu8]); first | done | rfl | omega | (simp; done) | (simp; omega) | skip)
    · obtain rfl : i = n := (by (try simp only [wf, wfa, nc, nc', Int.toNat_natCast, bsz, ByteArray.size_append, List.length_cons, List.length_nil] at *); (try simp (disch := omega) only [w64, w32, wu8] at *); first | done | omega)
      (refine Later.mk ?_; cbv; try simp only [wp, (show ∀ n : Nat, _ = n from fun n => wf.2.2.2.2.2.2.2.2.2.2.2.2.2.1 (Int.ofNat n)), (show _ = (0 : Nat) from wf.2.2.2.2.2.2.2.2.2.2.2.2.2.1 0), wpa, (show ∀ n : Nat, _ = n from fun n => wfa.2.2.2.2.2.2.2.2.2.2.2.2.2.1 (Int.ofNat n)), (show _ = (0 : Nat) from wfa.2.2.2.2.2.2.2.2.2.2.2.2.2.1 0), getL, takeL, dropL, TK.isAgg, reduceIte])
      exact good (by omega) _
theorem rcanonical (c : Int) (n : Nat) (V P0 : Nat → Int) (hn : n < 2 ^ 19) (hc : 0 ≤ c) : VFun (P ()) 42 [.d (.int .i64 c), .d (.sl n 2 (lvF V P0))]
    (fun r => ∃ c' m V' P', lst V' P' m = putsL [] (lst V P0 n) ∧ m ≤ n ∧ c' = (if c ≤ mostL (putsL [] (lst V P0 n)) then 0 else c) ∧ r = lv c' m V' P') := by
  refine vfunO (Tf := @T) @tabOk [(6, upF 0 9), (10, upF 0 9)] 400 Tryd.func42 rfl (fun {_} => by kernel_rfl) rfl (Nat.le_of_ble_eq_true rfl) @fun ⟨_, _, _, _, _, _, _, _, _, _, _, _, _, _, _, _, _, _, _, _, _, _, _, _, _, _, _, _, _, _, _, _, _, _, _, _, _, _, wp, wf⟩ R hR => ?_
  cbv
  try simp only [wp, (show ∀ n : Nat, _ = n from fun n => wf.2.2.2.2.2.2.2.2.2.2.2.2.2.1 (Int.ofNat n)), getL, takeL, dropL, TK.isAgg, reduceIte]
  refine loopO (Tf := @T) @tabOk [(6, upF 0 9), (10, upF 0 9)] 400 (fun y : Sy × Nat => ⟨[.undef, .d (.sl n 2 (lvF V P0)), .undef, .undef, .ptr 0 0, .ptr 1 0, .d (.int .i64 y.1.i), .undef, .undef, .undef, .undef, .undef, .undef, .undef, .undef, .undef, .undef, .undef, .undef, .undef, .undef, .undef, .undef, .undef, .undef, .undef, .undef, .undef, .undef, .undef, .undef, .undef, .undef, .undef, .undef, .undef, .undef, .undef, .undef, .undef, .undef, .undef], [.box [.d (.int .i64 0), .d (.sl 0 2 (lvF V P0))], .box [.d (.int .i64 c), .d (.sl y.2 2 (lvF y.1.V y.1.P))]]⟩) (fun y => n - y.1.i) (fun y => y.1.i ≤ n ∧ y.2 ≤ y.1.i ∧ lst y.1.V y.1.P y.2 = putsL [] (lst V P0 y.1.i)) (⟨0, V, P0⟩, 0) ⟨Nat.zero_le _, Nat.le_refl _, rfl⟩ (fun {_} => by kernel_rfl) ?_ (fun i => by kernel_rfl) @fun ⟨_, _, _, _, _, _, _, _, _, _, _, _, _, _, _, _, _, _, _, _, _, _, _, _, _, _, _, _, _, _, _, _, _, _, _, _, _, _, wpa, wfa⟩ ⟨⟨i, V1, P1⟩, m⟩ Bk hi hBk => ?_
  · ((cbv; try simp only [wf, exD, exL, exT, exB, exA, leLs, leL_d, leL_undef, leL_nils, leA_nils, deq_refl, deq_int, deq_bool, deq_str, and_true, true_and, AObj.iter.injEq, nc, nc']; try simp (disch := omega) only [w64, w32, wu8]); first | done | rfl | omega | (simp; done) | (simp; omega) | skip)
  obtain ⟨i1, i2, i3⟩ := hi
  dsimp only at i1 i2 i3
  (cbv; try simp only [wp, (show ∀ n : Nat, _ = n from fun n => wf.2.2.2.2.2.2.2.2.2.2.2.2.2.1 (Int.ofNat n)), (show _ = (0 : Nat) from wf.2.2.2.2.2.2.2.2.2.2.2.2.2.1 0), wpa, (show ∀ n : Nat, _ = n from fun n => wfa.2.2.2.2.2.2.2.2.2.2.2.2.2.1 (Int.ofNat n)), (show _ = (0 : Nat) from wfa.2.2.2.2.2.2.2.2.2.2.2.2.2.1 0), getL, takeL, dropL, TK.isAgg, reduceIte])
  refine ⟨fun e => ?_, fun e => ?_⟩
  · have e : i < n := (by (try simp only [wf, wfa, nc, nc', Int.toNat_natCast, bsz, ByteArray.size_append, List.length_cons, List.length_nil] at *); (try simp (disch := omega) only [w64, w32, wu8] at *); first | done | omega)
    (refine Later.mk ?_; cbv; try simp only [wp, (show ∀ n : Nat, _ = n from fun n => wf.2.2.2.2.2.2.2.2.2.2.2.2.2.1 (Int.ofNat n)), (show _ = (0 : Nat) from wf.2.2.2.2.2.2.2.2.2.2.2.2.2.1 0), wpa, (show ∀ n : Nat, _ = n from fun n => wfa.2.2.2.2.2.2.2.2.2.2.2.2.2.1 (Int.ofNat n)), (show _ = (0 : Nat) from wfa.2.2.2.2.2.2.2.2.2.2.2.2.2.1 0), getL, takeL, dropL, TK.isAgg, reduceIte])
    repeat' first | with_reducible refine And.intro ?_ ?_ | intro c9
    all_goals first | exact (by (try simp only [wf, wfa, nc, nc', Int.toNat_natCast, bsz, ByteArray.size_append, List.length_cons, List.length_nil] at *); (try simp (disch := omega) only [w64, w32, wu8] at *); first | done | omega) | trivial | skip
    have hasc : asc (lst V1 P1 m) := by rw [i3]; exact putsL_asc (by simp [asc])
    refine (rput m V1 P1 (V i) (P0 i) (by omega) (asc_dist hasc)).call ?_
    rintro _ ⟨m2, V2, P2, h1, h2, rfl⟩
    (cbv; try simp only [wp, (show ∀ n : Nat, _ = n from fun n => wf.2.2.2.2.2.2.2.2.2.2.2.2.2.1 (Int.ofNat n)), (show _ = (0 : Nat) from wf.2.2.2.2.2.2.2.2.2.2.2.2.2.1 0), wpa, (show ∀ n : Nat, _ = n from fun n => wfa.2.2.2.2.2.2.2.2.2.2.2.2.2.1 (Int.ofNat n)), (show _ = (0 : Nat) from wfa.2.2.2.2.2.2.2.2.2.2.2.2.2.1 0), getL, takeL, dropL, TK.isAgg, reduceIte])
    refine hBk (⟨i + 1, V2, P2⟩, m2) _ (by dsimp only; omega) ⟨by dsimp only; omega, by dsimp only; omega, by dsimp only; rw [lst, putsL_snoc, h1, i3]⟩ ?_
    ((cbv; try simp only [wf, wfa, exD, exL, exT, exB, exA, leLs, leL_d, leL_undef, leL_nils, leA_nils, deq_refl, deq_int, deq_bool, deq_str, and_true, true_and, AObj.iter.injEq, nc, nc']; try simp (disch := omega) only [w64, w32, wu8]); first | done | rfl | omega | (simp; done) | (simp; omega) | skip)
  · obtain rfl : i = n := (by (try simp only [wf, wfa, nc, nc', Int.toNat_natCast, bsz, ByteArray.size_append, List.length_cons, List.length_nil] at *); (try simp (disch := omega) only [w64, w32, wu8] at *); first | done | omega)
    (refine Later.mk ?_; cbv; try simp only [wp, (show ∀ n : Nat, _ = n from fun n => wf.2.2.2.2.2.2.2.2.2.2.2.2.2.1 (Int.ofNat n)), (show _ = (0 : Nat) from wf.2.2.2.2.2.2.2.2.2.2.2.2.2.1 0), wpa, (show ∀ n : Nat, _ = n from fun n => wfa.2.2.2.2.2.2.2.2.2.2.2.2.2.1 (Int.ofNat n)), (show _ = (0 : Nat) from wfa.2.2.2.2.2.2.2.2.2.2.2.2.2.1 0), getL, takeL, dropL, TK.isAgg, reduceIte])
    rw [← i3, mostF_lst] at hR
    replace hR := fun c' H r h1 hf => hR r H (lv c' m V1 P1) hf ⟨c', m, V1, P1, rfl, i2, h1, rfl⟩
    obtain ⟨cF, hcF⟩ : ∃ f_, f_ = fun j => if c ≤ mostF P1 j then 0 else c := ⟨_, rfl⟩
    have c0 : cF 0 = c := by rw [hcF]; show (if c ≤ -1 then 0 else c) = c; rw [if_neg (by omega)]
    have c1 : ∀ j, cF (j + 1) = if P1 j ≥ cF j then 0 else cF j := fun j => by
      rw [hcF]
      show (if c ≤ max (mostF P1 j) (P1 j) then 0 else c) = if P1 j ≥ (if c ≤ mostF P1 j then 0 else c) then 0 else (if c ≤ mostF P1 j then 0 else c)
      by_cases h : c ≤ mostF P1 j
      · rw [if_pos h, if_pos (by omega)]; split <;> rfl
      · rw [if_neg h]
        by_cases h2 : P1 j ≥ c
        · rw [if_pos h2, if_pos (by omega)]
        · rw [if_neg h2, if_neg (by omega)]
    have cn : (if c ≤ mostF P1 m then 0 else c) = cF m := by rw [hcF]
    rw [cn] at hR
    clear hcF cn
    refine loopO (Tf := @T) @tabOk [(6, upF 0 9), (10, upF 0 9)] 400 (fun j : Nat => ⟨[.undef, .undef, .undef, .undef, .ptr 0 0, .ptr 1 0, .undef, .d (.int .i64 j), .undef, .undef, .undef, .undef, .undef, .undef, .undef, .undef, .undef, .undef, .undef, .undef, .undef, .undef, .undef, .undef, .undef, .undef, .undef, .undef, .undef, .undef, .undef, .undef, .undef, .undef, .undef, .undef, .undef, .undef, .undef, .undef, .undef, .undef], [.box [.d (.int .i64 0), .d (.sl 0 2 (lvF V P0))], .box [.d (.int .i64 (cF j)), .d (.sl m 2 (lvF V1 P1))]]⟩) (fun j => m - j) (fun j => j ≤ m) 0 (Nat.zero_le _) (fun {_} => by kernel_rfl) ?_ (fun i => by kernel_rfl) @fun ⟨_, _, _, _, _, _, _, _, _, _, _, _, _, _, _, _, _, _, _, _, _, _, _, _, _, _, _, _, _, _, _, _, _, _, _, _, _, _, wpb, wfb⟩ j Bk2 hj hBk2 => ?_
    · (cbv; try simp only [wf, wfa, exD, exL, exT, exB, exA, leLs, leL_d, leL_undef, leL_nils, leA_nils, deq_refl, deq_int, deq_bool, deq_str, and_true, true_and, AObj.iter.injEq, nc, nc']; try simp (disch := omega) only [w64, w32, wu8])
      exact ⟨rfl, c0.symm⟩
    have c1 := c1 j
    (cbv; try simp only [wp, (show ∀ n : Nat, _ = n from fun n => wf.2.2.2.2.2.2.2.2.2.2.2.2.2.1 (Int.ofNat n)), (show _ = (0 : Nat) from wf.2.2.2.2.2.2.2.2.2.2.2.2.2.1 0), wpa, (show ∀ n : Nat, _ = n from fun n => wfa.2.2.2.2.2.2.2.2.2.2.2.2.2.1 (Int.ofNat n)), (show _ = (0 : Nat) from wfa.2.2.2.2.2.2.2.2.2.2.2.2.2.1 0), wpb, (show ∀ n : Nat, _ = n from fun n => wfb.2.2.2.2.2.2.2.2.2.2.2.2.2.1 (Int.ofNat n)), (show _ = (0 : Nat) from wfb.2.2.2.2.2.2.2.2.2.2.2.2.2.1 0), getL, takeL, dropL, TK.isAgg, reduceIte])
    refine ⟨fun e => ?_, fun e => ?_⟩
    · have e : j < m := (by (try simp only [wf, wfa, wfb, nc, nc', Int.toNat_natCast, bsz, ByteArray.size_append, List.length_cons, List.length_nil] at *); (try simp (disch := omega) only [w64, w32, wu8] at *); first | done | omega)
      (refine Later.mk ?_; cbv; try simp only [wp, (show ∀ n : Nat, _ = n from fun n => wf.2.2.2.2.2.2.2.2.2.2.2.2.2.1 (Int.ofNat n)), (show _ = (0 : Nat) from wf.2.2.2.2.2.2.2.2.2.2.2.2.2.1 0), wpa, (show ∀ n : Nat, _ = n from fun n => wfa.2.2.2.2.2.2.2.2.2.2.2.2.2.1 (Int.ofNat n)), (show _ = (0 : Nat) from wfa.2.2.2.2.2.2.2.2.2.2.2.2.2.1 0), wpb, (show ∀ n : Nat, _ = n from fun n => wfb.2.2.2.2.2.2.2.2.2.2.2.2.2.1 (Int.ofNat n)), (show _ = (0 : Nat) from wfb.2.2.2.2.2.2.2.2.2.2.2.2.2.1 0), getL, takeL, dropL, TK.isAgg, reduceIte])
      repeat' first | with_reducible refine And.intro ?_ ?_ | intro c9
      all_goals first | exact (by (try simp only [wf, wfa, wfb, nc, nc', Int.toNat_natCast, bsz, ByteArray.size_append, List.length_cons, List.length_nil] at *); (try simp (disch := omega) only [w64, w32, wu8] at *); first | done | omega) | trivial | skip
      · (refine Later.mk ?_; cbv; try simp only [wp, (show ∀ n : Nat, _ = n from fun n => wf.2.2.2.2.2.2.2.2.2.2.2.2.2.1 (Int.ofNat n)), (show _ = (0 : Nat) from wf.2.2.2.2.2.2.2.2.2.2.2.2.2.1 0), wpa, (show ∀ n : Nat, _ = n from fun n => wfa.2.2.2.2.2.2.2.2.2.2.2.2.2.1 (Int.ofNat n)), (show _ = (0 : Nat) from wfa.2.2.2.2.2.2.2.2.2.2.2.2.2.1 0), wpb, (show ∀ n : Nat, _ = n from fun n => wfb.2.2.2.2.2.2.2.2.2.2.2.2.2.1 (Int.ofNat n)), (show _ = (0 : Nat) from wfb.2.2.2.2.2.2.2.2.2.2.2.2.2.1 0), getL, takeL, dropL, TK.isAgg, reduceIte])
        rw [if_pos (by assumption)] at c1
        refine hBk2 (j + 1) _ (by omega) (by omega) ?_
        (cbv; try simp only [wf, wfa, wfb, exD, exL, exT, exB, exA, leLs, leL_d, leL_undef, leL_nils, leA_nils, deq_refl, deq_int, deq_bool, deq_str, and_true, true_and, AObj.iter.injEq, nc, nc']; try simp (disch := omega) only [w64, w32, wu8])
        ((try simp only [wf, wfa, wfb, nc, nc', Int.toNat_natCast, bsz, ByteArray.size_append, List.length_cons, List.length_nil] at *); (try simp (disch := omega) only [w64, w32, wu8] at *))
        exact ⟨by omega, c1.symm⟩
      · (refine Later.mk ?_; cbv; try simp only [wp, (show ∀ n : Nat, _ = n from fun n => wf.2.2.2.2.2.2.2.2.2.2.2.2.2.1 (Int.ofNat n)), (show _ = (0 : Nat) from wf.2.2.2.2.2.2.2.2.2.2.2.2.2.1 0), wpa, (show ∀ n : Nat, _ = n from fun n => wfa.2.2.2.2.2.2.2.2.2.2.2.2.2.1 (Int.ofNat n)), (show _ = (0 : Nat) from wfa.2.2.2.2.2.2.2.2.2.2.2.2.2.1 0), wpb, (show ∀ n : Nat, _ = n from fun n => wfb.2.2.2.2.2.2.2.2.2.2.2.2.2.1 (Int.ofNat n)), (show _ = (0 : Nat) from wfb.2.2.2.2.2.2.2.2.2.2.2.2.2.1 0), getL, takeL, dropL, TK.isAgg, reduceIte])
        rw [if_neg (by omega)] at c1
        refine hBk2 (j + 1) _ (by omega) (by omega) ?_
        (cbv; try simp only [wf, wfa, wfb, exD, exL, exT, exB, exA, leLs, leL_d, leL_undef, leL_nils, leA_nils, deq_refl, deq_int, deq_bool, deq_str, and_true, true_and, AObj.iter.injEq, nc, nc']; try simp (disch := omega) only [w64, w32, wu8])
        ((try simp only [wf, wfa, wfb, nc, nc', Int.toNat_natCast, bsz, ByteArray.size_append, List.length_cons, List.length_nil] at *); (try simp (disch := omega) only [w64, w32, wu8] at *))
        exact ⟨by omega, c1.symm⟩
    · obtain rfl : j = m := (by (try simp only [wf, wfa, wfb, nc, nc', Int.toNat_natCast, bsz, ByteArray.size_append, List.length_cons, List.length_nil] at *); (try simp (disch := omega) only [w64, w32, wu8] at *); first | done | omega)
      (refine Later.mk ?_; cbv; try simp only [wp, (show ∀ n : Nat, _ = n from fun n => wf.2.2.2.2.2.2.2.2.2.2.2.2.2.1 (Int.ofNat n)), (show _ = (0 : Nat) from wf.2.2.2.2.2.2.2.2.2.2.2.2.2.1 0), wpa, (show ∀ n : Nat, _ = n from fun n => wfa.2.2.2.2.2.2.2.2.2.2.2.2.2.1 (Int.ofNat n)), (show _ = (0 : Nat) from wfa.2.2.2.2.2.2.2.2.2.2.2.2.2.1 0), wpb, (show ∀ n : Nat, _ = n from fun n => wfb.2.2.2.2.2.2.2.2.2.2.2.2.2.1 (Int.ofNat n)), (show _ = (0 : Nat) from wfb.2.2.2.2.2.2.2.2.2.2.2.2.2.1 0), getL, takeL, dropL, TK.isAgg, reduceIte])
      repeat' first | trivial | with_reducible refine And.intro ?_ ?_ | intro c9
      all_goals exact hR _ _ _ rfl (.agg2 (.d _) (.d _))
end Go.VM

namespace Go.VM
open Go.Proofs Go
set_option maxRecDepth 100000
set_option linter.unusedVariables false
set_option linter.unusedSimpArgs false
/-- the canonical form of a number and of parts of which the greatest numbers are told -/
def CanR (c : Int) (f : Int → Option Int) (r : A) : Prop := ∃ q, asc q ∧ (∀ v, mx q v = f v) ∧ LvRes (canonL c q) 2 r
theorem CanR.puts {c : Int} {l : List Pt} {r : A} (h : LvRes (canonL c (putsL [] l)) 2 r) : CanR c (mx l) r :=
  ⟨_, putsL_asc (by simp [asc]), fun v => by rw [mx_putsL (by simp [asc])]; rfl, h⟩
theorem canon_fits (c : Int) (q : List Pt) : canonL c q = if (if c ≤ mostL q then 0 else c) > 1000 ∨ mostL q > 1000 ∨ q.length > 8 then none else some ((if c ≤ mostL q then 0 else c), q) := rfl
/-- fits behind canonical -/
theorem rcf {c c' : Int} {m : Nat} {V' P' : Nat → Int} {l : List Pt} {r : A} (h1 : lst V' P' m = putsL [] l) (h2 : c' = if c ≤ mostL (putsL [] l) then 0 else c)
    (h : LvRes (if c' > 1000 ∨ mostL (lst V' P' m) > 1000 ∨ (lst V' P' m).length > 8 then none else some (c', lst V' P' m)) 2 r) : CanR c (mx l) r := by
  refine .puts ?_
  rw [canon_fits, ← h2, ← h1]
  exact h
theorem LvRes.frz {o : Option (Int × List Pt)} {e : Int} {r : A} (h : LvRes o e r) (H : AHeap) : Frz H r r := by
  obtain ⟨c, n, V, P, e, rfl, _⟩ := h
  exact .tup2 (.agg2 (.d _) (.d _)) (.d _)
theorem CanR.frz {c : Int} {f : Int → Option Int} {r : A} (h : CanR c f r) (H : AHeap) : Frz H r r := by
  obtain ⟨q, _, _, h⟩ := h; exact h.frz H
theorem LvRes.err : ∀ e : Int, LvRes none e (.tup [lv 0 0 (fun _ => 0) (fun _ => 0), .d (.int .i64 e)]) := fun e => ⟨0, 0, _, _, e, rfl, by decide, fun _ => ⟨rfl, rfl, rfl⟩, fun x hx => by cases hx⟩
theorem frz_err (e : Int) (H : AHeap) : Frz H (.tup [.agg [.d (.int .i64 0), .nils], .d (.int .i64 e)]) (.tup [lv 0 0 (fun _ => 0) (fun _ => 0), .d (.int .i64 e)]) := .tup2 (.agg2 (.d _) (.nils _ _)) (.d _)
/-- what an operation on levels returns -/
def OpR (ok : Prop) (c : Int) (f : Int → Option Int) (r : A) : Prop := (¬ ok ∧ LvRes none 4 r) ∨ (ok ∧ CanR c f r)
theorem OpR.frz {ok : Prop} {c : Int} {f : Int → Option Int} {r : A} (h : OpR ok c f r) (H : AHeap) : Frz H r r := by
  rcases h with ⟨_, h⟩ | ⟨_, h⟩ <;> exact h.frz H
theorem NormR.op {c : Int} {n : Nat} {V P0 : Nat → Int} {r : A} (h : NormR c n V P0 r) : OpR (ValidP c n V P0) c (mx (lst V P0 n)) r := by
  rcases h with h | ⟨v, q, h1, h2, h3⟩
  · exact .inl h
  · exact .inr ⟨v, q, h1, mx_perm h2, h3⟩
theorem RNormal (c : Int) (n : Nat) (V P0 : Nat → Int) (hn : n < 2 ^ 63) : VFun (P ()) 30 [lv c n V P0] (OpR (ValidP c n V P0) c (mx (lst V P0 n))) := by
  refine vfunO (Tf := @T) @tabOk [] 400 Tryd.func30 rfl (fun {_} => by kernel_rfl) rfl (Nat.le_of_ble_eq_true rfl) @fun ⟨_, _, _, _, _, _, _, _, _, _, _, _, _, _, _, _, _, _, _, _, _, _, _, _, _, _, _, _, _, _, _, _, _, _, _, _, _, _, wp, wf⟩ R hR => ?_
  cbv
  try simp only [wp, (show ∀ n : Nat, _ = n from fun n => wf.2.2.2.2.2.2.2.2.2.2.2.2.2.1 (Int.ofNat n)), getL, takeL, dropL, TK.isAgg, reduceIte]
  refine (RValid c n V P0 hn).call ?_
  rintro _ ⟨b, hb, rfl⟩
  rcases hb.dich with ⟨rfl, v⟩ | ⟨rfl, v⟩ <;> clear hb <;> (cbv; try simp only [wp, (show ∀ n : Nat, _ = n from fun n => wf.2.2.2.2.2.2.2.2.2.2.2.2.2.1 (Int.ofNat n)), (show _ = (0 : Nat) from wf.2.2.2.2.2.2.2.2.2.2.2.2.2.1 0), getL, takeL, dropL, TK.isAgg, reduceIte]) <;> (refine Later.mk ?_; cbv; try simp only [wp, (show ∀ n : Nat, _ = n from fun n => wf.2.2.2.2.2.2.2.2.2.2.2.2.2.1 (Int.ofNat n)), (show _ = (0 : Nat) from wf.2.2.2.2.2.2.2.2.2.2.2.2.2.1 0), getL, takeL, dropL, TK.isAgg, reduceIte])
  · have h8 := v.2.2.1
    repeat' first | trivial | with_reducible refine And.intro ?_ ?_ | intro c9
    all_goals
      refine (rcanonical c n V P0 (by omega) v.1).call ?_
      rintro _ ⟨c', m, V', P', h1, h2, h3, rfl⟩
      (cbv; try simp only [wp, (show ∀ n : Nat, _ = n from fun n => wf.2.2.2.2.2.2.2.2.2.2.2.2.2.1 (Int.ofNat n)), (show _ = (0 : Nat) from wf.2.2.2.2.2.2.2.2.2.2.2.2.2.1 0), getL, takeL, dropL, TK.isAgg, reduceIte])
      repeat' first | trivial | with_reducible refine And.intro ?_ ?_ | intro c9
    all_goals
      refine (fits c' m V' P' (by omega)).call ?_
      intro r hr
      have ⟨c2, n2, V2, P2, e2, e, _⟩ := hr
      subst e
      (cbv; try simp only [wp, (show ∀ n : Nat, _ = n from fun n => wf.2.2.2.2.2.2.2.2.2.2.2.2.2.1 (Int.ofNat n)), (show _ = (0 : Nat) from wf.2.2.2.2.2.2.2.2.2.2.2.2.2.1 0), getL, takeL, dropL, TK.isAgg, reduceIte])
      repeat' first | trivial | with_reducible refine And.intro ?_ ?_ | intro c9
    all_goals exact hR _ _ _ (hr.frz _) (.inr ⟨v, rcf h1 h3 hr⟩)
  · exact hR _ _ _ (frz_err 4 _) (.inl ⟨v, .err 4⟩)
theorem RSuc (c : Int) (n : Nat) (V P0 : Nat → Int) (hn : n < 2 ^ 63) : VFun (P ()) 22 [lv c n V P0] (OpR (ValidP c n V P0) (c + 1) (mx (lst V (fun i => P0 i + 1) n))) := by
  refine vfunO (Tf := @T) @tabOk [] 400 Tryd.func22 rfl (fun {_} => by kernel_rfl) rfl (Nat.le_of_ble_eq_true rfl) @fun ⟨_, _, _, _, _, _, _, _, _, _, _, _, _, _, _, _, _, _, _, _, _, _, _, _, _, _, _, _, _, _, _, _, _, _, _, _, _, _, wp, wf⟩ R hR => ?_
  cbv
  try simp only [wp, (show ∀ n : Nat, _ = n from fun n => wf.2.2.2.2.2.2.2.2.2.2.2.2.2.1 (Int.ofNat n)), getL, takeL, dropL, TK.isAgg, reduceIte]
  refine (RValid c n V P0 hn).call ?_
  rintro _ ⟨b, hb, rfl⟩
  rcases hb.dich with ⟨rfl, v⟩ | ⟨rfl, v⟩ <;> clear hb <;> (cbv; try simp only [wp, (show ∀ n : Nat, _ = n from fun n => wf.2.2.2.2.2.2.2.2.2.2.2.2.2.1 (Int.ofNat n)), (show _ = (0 : Nat) from wf.2.2.2.2.2.2.2.2.2.2.2.2.2.1 0), getL, takeL, dropL, TK.isAgg, reduceIte]) <;> (refine Later.mk ?_; cbv; try simp only [wp, (show ∀ n : Nat, _ = n from fun n => wf.2.2.2.2.2.2.2.2.2.2.2.2.2.1 (Int.ofNat n)), (show _ = (0 : Nat) from wf.2.2.2.2.2.2.2.2.2.2.2.2.2.1 0), getL, takeL, dropL, TK.isAgg, reduceIte])
  · have h8 := v.2.2.1
    have h0 := v.1
    have h1 := v.2.1
    repeat' first | trivial | with_reducible refine And.intro ?_ ?_ | intro c9
    all_goals
      refine CallW.within (rmore c n V P0 (fun i => P0 i + 1) 1 (by omega) (fun i hi => by have := v.2.2.2 i hi; obtain ⟨p1, p2, p3, p4, _⟩ := this; omega) (by decide) (fun i _ => rfl)) [] rfl trivial rfl ?_
      rintro _ _ ⟨G, rfl, rfl⟩
      refine ⟨[_, _], G, rfl, Nat.zero_le _, ⟨trivial, Nat.zero_le _, trivial⟩, rfl, ?_⟩
      (cbv; try simp only [wp, (show ∀ n : Nat, _ = n from fun n => wf.2.2.2.2.2.2.2.2.2.2.2.2.2.1 (Int.ofNat n)), (show _ = (0 : Nat) from wf.2.2.2.2.2.2.2.2.2.2.2.2.2.1 0), getL, takeL, dropL, TK.isAgg, reduceIte])
      repeat' first | trivial | with_reducible refine And.intro ?_ ?_ | intro c9
    all_goals (refine CallW.frz @fun ⟨_, _, _, _, _, _, _, _, _, _, _, _, _, _, _, _, _, _, _, _, _, _, _, _, _, _, _, _, _, _, _, _, _, _, _, _, _, _, wpz, wfz⟩ => ?_; cbv; try simp only [wpz, wp, (show ∀ n : Nat, _ = n from fun n => wfz.2.2.2.2.2.2.2.2.2.2.2.2.2.1 (Int.ofNat n)), getL, takeL, dropL, TK.isAgg, reduceIte])
    all_goals repeat' first | trivial | with_reducible refine And.intro ?_ ?_ | intro c9
    all_goals
      refine CallW.args (args' := [.d (.int .i64 (c + 1)), .d (.sl n 2 (lvF V fun i => P0 i + 1))]) (fun {_ _} => ⟨(Deq.of_eq (congrArg (D.int .i64) (by (try simp only [wf, nc, nc', Int.toNat_natCast, bsz, ByteArray.size_append, List.length_cons, List.length_nil] at *); (try simp (disch := omega) only [w64, w32, wu8] at *); first | done | omega))), .refl _, trivial⟩) ((rcanonical (c + 1) n V _ (by omega) (by omega)).call ?_)
      rintro _ ⟨c', m, V', P', h1, h2, h3, rfl⟩
      (cbv; try simp only [wp, (show ∀ n : Nat, _ = n from fun n => wf.2.2.2.2.2.2.2.2.2.2.2.2.2.1 (Int.ofNat n)), (show _ = (0 : Nat) from wf.2.2.2.2.2.2.2.2.2.2.2.2.2.1 0), getL, takeL, dropL, TK.isAgg, reduceIte])
      repeat' first | trivial | with_reducible refine And.intro ?_ ?_ | intro c9
    all_goals
      refine (fits c' m V' P' (by omega)).call ?_
      intro r hr
      have ⟨c2, n2, V2, P2, e2, e, _⟩ := hr
      subst e
      (cbv; try simp only [wp, (show ∀ n : Nat, _ = n from fun n => wf.2.2.2.2.2.2.2.2.2.2.2.2.2.1 (Int.ofNat n)), (show _ = (0 : Nat) from wf.2.2.2.2.2.2.2.2.2.2.2.2.2.1 0), getL, takeL, dropL, TK.isAgg, reduceIte])
      repeat' first | trivial | with_reducible refine And.intro ?_ ?_ | intro c9
    all_goals exact hR _ _ _ (hr.frz _) (.inr ⟨v, rcf h1 h3 hr⟩)
  · exact hR _ _ _ (frz_err 4 _) (.inl ⟨v, .err 4⟩)
theorem lst_inj {V P0 V' P' : Nat → Int} {n : Nat} (h : lst V P0 n = lst V' P' n) (i : Nat) (hi : i < n) : V i = V' i ∧ P0 i = P' i := by
  have h1 := lst_get V P0 hi
  rw [h, lst_get V' P' hi] at h1
  have h2 := Option.some.inj h1
  exact ⟨(congrArg Prod.fst h2).symm, (congrArg Prod.snd h2).symm⟩
theorem EqLevel (c c' : Int) (n n' : Nat) (V P0 V' P' : Nat → Int) (hn : n < 2 ^ 62) (hn' : n' < 2 ^ 62) : VFun (P ()) 34 [lv c n V P0, lv c' n' V' P'] (fun r => ∃ b : Bool, (b = true ↔ c = c' ∧ lst V P0 n = lst V' P' n') ∧ r = .d (.bool b)) := by
  refine vfunO (Tf := @T) @tabOk [(6, upF 0 11)] 400 Tryd.func34 rfl (fun {_} => by kernel_rfl) rfl (Nat.le_of_ble_eq_true rfl) @fun ⟨_, _, _, _, _, _, _, _, _, _, _, _, _, _, _, _, _, _, _, _, _, _, _, _, _, _, _, _, _, _, _, _, _, _, _, _, _, _, wp, wf⟩ R hR => ?_
  cbv
  try simp only [wp, (show ∀ n : Nat, _ = n from fun n => wf.2.2.2.2.2.2.2.2.2.2.2.2.2.1 (Int.ofNat n)), getL, takeL, dropL, TK.isAgg, reduceIte]
  replace hR := fun b H h => hR _ H _ (.d (.bool b)) ⟨b, h, rfl⟩
  repeat' first | with_reducible refine And.intro ?_ ?_ | intro c9
  all_goals (refine Later.mk ?_; cbv; try simp only [wp, (show ∀ n : Nat, _ = n from fun n => wf.2.2.2.2.2.2.2.2.2.2.2.2.2.1 (Int.ofNat n)), (show _ = (0 : Nat) from wf.2.2.2.2.2.2.2.2.2.2.2.2.2.1 0), getL, takeL, dropL, TK.isAgg, reduceIte])
  · exact hR _ _ (iffF fun h => c9 h.1)
  · exact hR _ _ (iffF fun h => (by have := congrArg List.length h.2; rw [lst_length, lst_length] at this; have c9 : ¬ n = n' := (by (try simp only [wf, nc, nc', Int.toNat_natCast, bsz, ByteArray.size_append, List.length_cons, List.length_nil] at *); (try simp (disch := omega) only [w64, w32, wu8] at *); first | done | omega); exact c9 this))
  · obtain rfl : n = n' := (by (try simp only [wf, nc, nc', Int.toNat_natCast, bsz, ByteArray.size_append, List.length_cons, List.length_nil] at *); (try simp (disch := omega) only [w64, w32, wu8] at *); first | done | omega)
    obtain rfl : c = c' := by assumption
    refine loopO (Tf := @T) @tabOk [(6, upF 0 11)] 400 (fun i : Nat => ⟨[.undef, .undef, .ptr 0 0, .ptr 1 0, .undef, .d (.int .i64 i), .undef, .undef, .undef, .undef, .undef, .undef, .undef, .undef, .undef, .undef, .undef, .undef, .undef, .undef, .undef, .undef, .undef, .undef, .undef, .undef, .undef, .undef, .undef, .undef, .undef, .undef, .undef, .undef, .undef, .undef, .undef, .undef], [.box [.d (.int .i64 c), .d (.sl n 2 (lvF V P0))], .box [.d (.int .i64 c), .d (.sl n 2 (lvF V' P'))]]⟩) (fun i => n - i) (fun i => i ≤ n ∧ ∀ k, k < i → V k = V' k ∧ P0 k = P' k) 0 ⟨Nat.zero_le _, fun k hk => absurd hk (Nat.not_lt_zero _)⟩ (fun {_} => by kernel_rfl) ?_ (fun i => by kernel_rfl) @fun ⟨_, _, _, _, _, _, _, _, _, _, _, _, _, _, _, _, _, _, _, _, _, _, _, _, _, _, _, _, _, _, _, _, _, _, _, _, _, _, wpa, wfa⟩ i Bk hi hBk => ?_
    · ((cbv; try simp only [wf, exD, exL, exT, exB, exA, leLs, leL_d, leL_undef, leL_nils, leA_nils, deq_refl, deq_int, deq_bool, deq_str, and_true, true_and, AObj.iter.injEq, nc, nc']; try simp (disch := omega) only [w64, w32, wu8]); first | done | rfl | omega | (simp; done) | (simp; omega) | skip)
    (cbv; try simp only [wp, (show ∀ n : Nat, _ = n from fun n => wf.2.2.2.2.2.2.2.2.2.2.2.2.2.1 (Int.ofNat n)), (show _ = (0 : Nat) from wf.2.2.2.2.2.2.2.2.2.2.2.2.2.1 0), wpa, (show ∀ n : Nat, _ = n from fun n => wfa.2.2.2.2.2.2.2.2.2.2.2.2.2.1 (Int.ofNat n)), (show _ = (0 : Nat) from wfa.2.2.2.2.2.2.2.2.2.2.2.2.2.1 0), getL, takeL, dropL, TK.isAgg, reduceIte])
    obtain ⟨i1, i2⟩ := hi
    refine ⟨fun e => ?_, fun e => ?_⟩
    · have e : i < n := (by (try simp only [wf, wfa, nc, nc', Int.toNat_natCast, bsz, ByteArray.size_append, List.length_cons, List.length_nil] at *); (try simp (disch := omega) only [w64, w32, wu8] at *); first | done | omega)
      (refine Later.mk ?_; cbv; try simp only [wp, (show ∀ n : Nat, _ = n from fun n => wf.2.2.2.2.2.2.2.2.2.2.2.2.2.1 (Int.ofNat n)), (show _ = (0 : Nat) from wf.2.2.2.2.2.2.2.2.2.2.2.2.2.1 0), wpa, (show ∀ n : Nat, _ = n from fun n => wfa.2.2.2.2.2.2.2.2.2.2.2.2.2.1 (Int.ofNat n)), (show _ = (0 : Nat) from wfa.2.2.2.2.2.2.2.2.2.2.2.2.2.1 0), getL, takeL, dropL, TK.isAgg, reduceIte])
      repeat' first | with_reducible refine And.intro ?_ ?_ | intro c9
      all_goals first | exact (by (try simp only [wf, wfa, nc, nc', Int.toNat_natCast, bsz, ByteArray.size_append, List.length_cons, List.length_nil] at *); (try simp (disch := omega) only [w64, w32, wu8] at *); first | done | omega) | trivial | skip
      · (refine Later.mk ?_; cbv; try simp only [wp, (show ∀ n : Nat, _ = n from fun n => wf.2.2.2.2.2.2.2.2.2.2.2.2.2.1 (Int.ofNat n)), (show _ = (0 : Nat) from wf.2.2.2.2.2.2.2.2.2.2.2.2.2.1 0), wpa, (show ∀ n : Nat, _ = n from fun n => wfa.2.2.2.2.2.2.2.2.2.2.2.2.2.1 (Int.ofNat n)), (show _ = (0 : Nat) from wfa.2.2.2.2.2.2.2.2.2.2.2.2.2.1 0), getL, takeL, dropL, TK.isAgg, reduceIte])
        refine hBk (i + 1) _ (by omega) ⟨by omega, fun k hk => ?_⟩ ?_
        · by_cases e2 : k = i
          · subst e2; exact c9
          · exact i2 k (by omega)
        · ((cbv; try simp only [wf, wfa, exD, exL, exT, exB, exA, leLs, leL_d, leL_undef, leL_nils, leA_nils, deq_refl, deq_int, deq_bool, deq_str, and_true, true_and, AObj.iter.injEq, nc, nc']; try simp (disch := omega) only [w64, w32, wu8]); first | done | rfl | omega | (simp; done) | (simp; omega) | skip)
      · (refine Later.mk ?_; cbv; try simp only [wp, (show ∀ n : Nat, _ = n from fun n => wf.2.2.2.2.2.2.2.2.2.2.2.2.2.1 (Int.ofNat n)), (show _ = (0 : Nat) from wf.2.2.2.2.2.2.2.2.2.2.2.2.2.1 0), wpa, (show ∀ n : Nat, _ = n from fun n => wfa.2.2.2.2.2.2.2.2.2.2.2.2.2.1 (Int.ofNat n)), (show _ = (0 : Nat) from wfa.2.2.2.2.2.2.2.2.2.2.2.2.2.1 0), getL, takeL, dropL, TK.isAgg, reduceIte])
        exact hR _ _ (iffF fun h => c9 (lst_inj h.2 i e))
    · obtain rfl : i = n := (by (try simp only [wf, wfa, nc, nc', Int.toNat_natCast, bsz, ByteArray.size_append, List.length_cons, List.length_nil] at *); (try simp (disch := omega) only [w64, w32, wu8] at *); first | done | omega)
      (refine Later.mk ?_; cbv; try simp only [wp, (show ∀ n : Nat, _ = n from fun n => wf.2.2.2.2.2.2.2.2.2.2.2.2.2.1 (Int.ofNat n)), (show _ = (0 : Nat) from wf.2.2.2.2.2.2.2.2.2.2.2.2.2.1 0), wpa, (show ∀ n : Nat, _ = n from fun n => wfa.2.2.2.2.2.2.2.2.2.2.2.2.2.1 (Int.ofNat n)), (show _ = (0 : Nat) from wfa.2.2.2.2.2.2.2.2.2.2.2.2.2.1 0), getL, takeL, dropL, TK.isAgg, reduceIte])
      exact hR _ _ (iffT ⟨rfl, (lst_congr fun k hk => ⟨(i2 k hk).1.symm, (i2 k hk).2.symm⟩).symm⟩)
/-- sorted, as an own slice -/
theorem SortedO (n : Nat) (V P0 : Nat → Int) (hn : n ≤ 8) : VCalls (P ()) 46 [.d (.sl n 2 (lvF V P0))] [] (fun r H => ∃ V' P', (lst V' P' n).Perm (lst V P0 n) ∧ upTo V' n ∧ r = .ref 0 0 n 2 ∧ H = [.arr n 2 (lvF V' P') 0]) :=
  (Sorted0 n V P0 hn).ghost 2 (lvF V P0) fun r H h => by
    rcases h with ⟨rfl, rfl, rfl⟩ | h
    · exact .inr ⟨rfl, V, P0, .refl _, fun k l h1 h2 => by omega, rfl, rfl⟩
    · exact .inl h
theorem variable1 (v p : Int) : VFun (P ()) 47 [.agg [.d (.int .i64 v), .d (.int .i64 p)]] (fun r => r = .d (.int .i64 v)) := by
  refine vfunO (Tf := @T) @tabOk [] 400 Tryd.func47 rfl (fun {_} => by kernel_rfl) rfl (Nat.le_of_ble_eq_true rfl) @fun ⟨_, _, _, _, _, _, _, _, _, _, _, _, _, _, _, _, _, _, _, _, _, _, _, _, _, _, _, _, _, _, _, _, _, _, _, _, _, _, wp, wf⟩ R hR => ?_
  cbv
  try simp only [wp, (show ∀ n : Nat, _ = n from fun n => wf.2.2.2.2.2.2.2.2.2.2.2.2.2.1 (Int.ofNat n)), getL, takeL, dropL, TK.isAgg, reduceIte]
  exact hR _ _ _ (.d _) rfl
theorem greater (v p v' p' : Int) : VFun (P ()) 48 [.agg [.d (.int .i64 v), .d (.int .i64 p)], .agg [.d (.int .i64 v'), .d (.int .i64 p')]] (fun r => ∃ q, q = max p p' ∧ r = .agg [.d (.int .i64 v), .d (.int .i64 q)]) := by
  refine vfunO (Tf := @T) @tabOk [] 400 Tryd.func48 rfl (fun {_} => by kernel_rfl) rfl (Nat.le_of_ble_eq_true rfl) @fun ⟨_, _, _, _, _, _, _, _, _, _, _, _, _, _, _, _, _, _, _, _, _, _, _, _, _, _, _, _, _, _, _, _, _, _, _, _, _, _, wp, wf⟩ R hR => ?_
  cbv
  try simp only [wp, (show ∀ n : Nat, _ = n from fun n => wf.2.2.2.2.2.2.2.2.2.2.2.2.2.1 (Int.ofNat n)), getL, takeL, dropL, TK.isAgg, reduceIte]
  refine hR _ _ (.agg [.d (.int .i64 v), .d (.int .i64 (max p p'))]) ?_ ⟨_, rfl, rfl⟩
  ((try simp only [wf, nc, nc', Int.toNat_natCast, bsz, ByteArray.size_append, List.length_cons, List.length_nil] at *); (try simp (disch := omega) only [w64, w32, wu8] at *))
  rw [show (if p < p' then p' else p) = max p p' by split <;> omega]
  exact .agg2 (.d _) (.d _)
end Go.VM
