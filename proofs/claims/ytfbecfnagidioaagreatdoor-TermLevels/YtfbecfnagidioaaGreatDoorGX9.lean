/- Part of the proof: LB8. -/
import Derived.Test.YtfbecfnagidioaaGreatDoorGX8
import Derived.Test.YtfbecfnagidioaaGreatDoorGX7
import Derived.Test.YtfbecfnagidioaaGreatDoorGV5
namespace Go.VM
open Go.Proofs Go
set_option maxRecDepth 100000
set_option linter.unusedVariables false
set_option linter.unusedSimpArgs false
theorem rmoreF (c : Int) (n : Nat) (V P0 Q : Nat → Int) (p : Int) (hn : n < 2 ^ 20) (hp : ∀ i, i < n → -100000 ≤ P0 i ∧ P0 i ≤ 100000) (hp2 : -100000 ≤ p ∧ p ≤ 100000) (hQ : ∀ i, i < n → Q i = P0 i + p) : VFun (P ()) 92 [lv c n V P0, .d (.int .i64 p)] (fun r => r = .d (.sl n 2 (lvF V Q))) :=
  VCalls.pure rfl (rmore c n V P0 Q p hn hp hp2 hQ) fun r H h => by
    obtain ⟨G, rfl, rfl⟩ := h
    exact ⟨_, .ref0 1 n 2 n 0 _ rfl rfl, rfl⟩
theorem VCalls.pureC [Glb] {P : Program} {K : FuncId} {args : List A} {R1 : A → AHeap → Prop} (h : VCalls P K args [] R1) (hb : belA.belAs 0 args = true) (hren : ren.renL (fun i => i) args = args) {S : A → Prop} (hr : ∀ r H', R1 r H' → ∃ y, FrzM 0 (fun i => i) H' r y ∧ S y) : VFun P K args S := fun H => by
  have h1 : VCalls P K (ren.renL (fun i => i) args) H (fun r H' => H' = H ∧ S r) := by
    refine h.frame H (fun i => i) (fun i j hi => absurd hi (Nat.not_lt_zero _)) (fun i x hx => by simp at hx) (fun i x hx => by simp at hx) (fun k hk => belAs_ok hb k hk) fun r1 H1' hR => ?_
    obtain ⟨y, h1, h2⟩ := hr r1 H1' hR
    refine Ops.exists_one.elim fun inst => ?_
    let lim : Lim := ⟨fun _ _ => True⟩
    exact ⟨y, [], H, h1, Nat.le_refl _, fun i _ hi => absurd hi (Nat.not_lt_zero _), trivial, fun i x hx => by simp at hx, by simp, fun i x hx => by simp at hx, fun o ho _ => rfl, rfl, h2⟩
  rwa [hren] at h1
theorem joinedF (n m : Nat) (V P0 V' P' : Nat → Int) (hn : n < 2 ^ 20) (hm : m < 2 ^ 20) : VFun (P ()) 86 [.d (.sl n 2 (lvF V P0)), .d (.sl m 2 (lvF V' P')), .clo 87 [] [], .clo 88 [] []]
    (fun r => ∃ k V2 P2, lst V2 P2 k = joinL (lst V P0 n) (lst V' P' m) ∧ k ≤ n + m ∧ r = .d (.sl k 2 (lvF V2 P2))) :=
  (joined n m V P0 V' P' hn hm).pureC rfl rfl fun r H h => by
    obtain ⟨k, V2, P2, h1, h2, rfl, rfl⟩ := h
    exact ⟨_, .ref0 0 k 2 k 0 _ (Nat.zero_le _) rfl rfl, k, V2, P2, h1, h2, rfl⟩
/-- the levels that are put in are valid -/
def SubP (c : Int) (n : Nat) (V P0 : Nat → Int) (m : Nat) (C : Nat → Int) (N : Nat → Nat) (W Q : Nat → Nat → Int) : Prop := ValidP c n V P0 ∧ ∀ i, i < n → V i < m → ValidP (C (V i).toNat) (N (V i).toNat) (W (V i).toNat) (Q (V i).toNat)
def SubR (c : Int) (n : Nat) (V P0 : Nat → Int) (m : Nat) (C : Nat → Int) (N : Nat → Nat) (W Q : Nat → Nat → Int) : A → Prop := OpR (SubP c n V P0 m C N W Q) (sc m C c (lst V P0 n)) (mx (big m (fun i => lst (W i) (Q i) (N i)) (lst V P0 n)))
structure Uy where
  i : Nat
  k : Nat
  c : Int
  V : Nat → Int
  P : Nat → Int
set_option maxHeartbeats 4000000 in
theorem RSubst (c : Int) (n : Nat) (V P0 : Nat → Int) (m : Nat) (C : Nat → Int) (N : Nat → Nat) (W Q : Nat → Nat → Int) (hn : n < 2 ^ 63) (hm : m < 2 ^ 63) (hN : ∀ i, i < m → N i < 2 ^ 63) : VFun (P ()) 51 [lv c n V P0, .d (.sl m 2 (lsF C N W Q))] (SubR c n V P0 m C N W Q) := by
  refine vfunO (Tf := fun {_} _ => fzT [2] (T ())) (fun {_} => tabOk.frz [2]) [(13, upF 0 12), (14, upF 0 11)] 400 Tryz.func51 rfl (fun {_} => by kernel_rfl) rfl (Nat.le_of_ble_eq_true rfl) @fun ⟨_, _, _, _, _, _, _, _, _, _, _, _, _, _, _, _, _, _, _, _, _, _, _, _, _, _, _, _, _, _, _, _, _, _, _, _, _, _, wp, wf⟩ R hR => ?_
  cbv
  try simp only [wp, (show ∀ n : Nat, _ = n from fun n => wf.2.2.2.2.2.2.2.2.2.2.2.2.2.1 (Int.ofNat n)), getL, takeL, dropL, TK.isAgg, reduceIte]
  refine (RValid c n V P0 hn).call ?_
  rintro _ ⟨b, hb, rfl⟩
  rcases hb.dich with ⟨rfl, v⟩ | ⟨rfl, v⟩ <;> clear hb <;> (cbv; try simp only [wp, (show ∀ n : Nat, _ = n from fun n => wf.2.2.2.2.2.2.2.2.2.2.2.2.2.1 (Int.ofNat n)), (show _ = (0 : Nat) from wf.2.2.2.2.2.2.2.2.2.2.2.2.2.1 0), getL, takeL, dropL, TK.isAgg, reduceIte])
  all_goals (refine Later.mk ?_; cbv; try simp only [wp, (show ∀ n : Nat, _ = n from fun n => wf.2.2.2.2.2.2.2.2.2.2.2.2.2.1 (Int.ofNat n)), (show _ = (0 : Nat) from wf.2.2.2.2.2.2.2.2.2.2.2.2.2.1 0), getL, takeL, dropL, TK.isAgg, reduceIte])
  · have h8 := v.2.2.1
    have h0 := v.1
    repeat' first | trivial | with_reducible refine And.intro ?_ ?_ | intro c9
    refine loopGhost 7 2 rfl ?_
    refine loopO (Tf := fun {_} _ => fzT [2] (T ())) (fun {_} => tabOk.frz [2]) [(13, upF 0 12), (14, upF 0 11)] 400 (fun y : Uy => ⟨[.undef, .d (.sl m 2 (lsF C N W Q)), .iptr (fun x j => getL [.int .i64 c, .sl n 2 (lvF V P0)] j .nilp) 0 0 2, .undef, .ptr 0 0, .d (.int .i64 0), .d (.int .i64 y.c), .ref 1 0 y.k 2, .d (.int .i64 y.i), .undef, .undef, .undef, .undef, .undef, .undef, .undef, .undef, .undef, .undef, .undef, .undef, .undef, .undef, .undef, .undef, .undef, .undef, .undef, .undef, .undef, .undef, .undef, .undef, .undef, .undef, .undef, .undef, .undef, .undef, .undef, .undef, .undef, .undef, .undef, .undef, .undef, .undef, .undef, .undef, .undef, .undef, .undef, .undef, .undef, .undef, .undef, .undef, .undef, .undef, .undef, .undef, .undef, .undef, .undef, .undef, .undef, .undef, .undef, .undef, .undef, .undef, .undef], [.box [.d (.int .i64 0), .d (.sl 0 2 (lvF V P0))], .arr y.k 2 (lvF y.V y.P) 0]⟩) (fun y => n - y.i) (fun y => y.i ≤ n ∧ y.k ≤ 8 * y.i ∧ lst y.V y.P y.k = big m (fun i => lst (W i) (Q i) (N i)) (lst V P0 y.i) ∧ y.c = sc m C c (lst V P0 y.i) ∧ ∀ i, i < y.i → V i < m → ValidP (C (V i).toNat) (N (V i).toNat) (W (V i).toNat) (Q (V i).toNat)) ⟨0, 0, c, V, P0⟩ ⟨Nat.zero_le _, Nat.zero_le _, rfl, rfl, fun k hk => absurd hk (Nat.not_lt_zero _)⟩ (fun {_} => by kernel_rfl) ?_ (fun i => by kernel_rfl) @fun ⟨_, _, _, _, _, _, _, _, _, _, _, _, _, _, _, _, _, _, _, _, _, _, _, _, _, _, _, _, _, _, _, _, _, _, _, _, _, _, wpa, wfa⟩ ⟨i, k, c1, V1, P1⟩ Bk hi hBk => ?_
    · (cbv; try simp only [wf, exD, exL, exT, exB, exA, leLs, leL_d, leL_undef, leL_nils, leA_nils, deq_refl, deq_int, deq_bool, deq_str, and_true, true_and, AObj.iter.injEq, nc, nc']; try simp (disch := omega) only [w64, w32, wu8])
      exact ⟨rfl, Nat.le_refl _, Nat.le_refl _, fun i j hi => absurd hi (Nat.not_lt_zero _)⟩
    obtain ⟨i1, i2, i3, i4, i5⟩ := hi
    dsimp only at i1 i2 i3 i4 i5
    (cbv; try simp only [wp, (show ∀ n : Nat, _ = n from fun n => wf.2.2.2.2.2.2.2.2.2.2.2.2.2.1 (Int.ofNat n)), (show _ = (0 : Nat) from wf.2.2.2.2.2.2.2.2.2.2.2.2.2.1 0), wpa, (show ∀ n : Nat, _ = n from fun n => wfa.2.2.2.2.2.2.2.2.2.2.2.2.2.1 (Int.ofNat n)), (show _ = (0 : Nat) from wfa.2.2.2.2.2.2.2.2.2.2.2.2.2.1 0), getL, takeL, dropL, TK.isAgg, reduceIte])
    refine ⟨fun e => ?_, fun e => ?_⟩
    · have e : i < n := (by (try simp only [wf, wfa, nc, nc', Int.toNat_natCast, bsz, ByteArray.size_append, List.length_cons, List.length_nil] at *); (try simp (disch := omega) only [w64, w32, wu8] at *); first | done | omega)
      (refine Later.mk ?_; cbv; try simp only [wp, (show ∀ n : Nat, _ = n from fun n => wf.2.2.2.2.2.2.2.2.2.2.2.2.2.1 (Int.ofNat n)), (show _ = (0 : Nat) from wf.2.2.2.2.2.2.2.2.2.2.2.2.2.1 0), wpa, (show ∀ n : Nat, _ = n from fun n => wfa.2.2.2.2.2.2.2.2.2.2.2.2.2.1 (Int.ofNat n)), (show _ = (0 : Nat) from wfa.2.2.2.2.2.2.2.2.2.2.2.2.2.1 0), getL, takeL, dropL, TK.isAgg, reduceIte])
      repeat' first | with_reducible refine And.intro ?_ ?_ | intro c9
      all_goals first | exact (by (try simp only [wf, wfa, nc, nc', Int.toNat_natCast, bsz, ByteArray.size_append, List.length_cons, List.length_nil] at *); (try simp (disch := omega) only [w64, w32, wu8] at *); first | done | omega) | trivial | skip
      · have hV : ¬ V i < m := (by (try simp only [wf, wfa, nc, nc', Int.toNat_natCast, bsz, ByteArray.size_append, List.length_cons, List.length_nil] at *); (try simp (disch := omega) only [w64, w32, wu8] at *); first | done | omega)
        (refine Later.mk ?_; cbv; try simp only [wp, (show ∀ n : Nat, _ = n from fun n => wf.2.2.2.2.2.2.2.2.2.2.2.2.2.1 (Int.ofNat n)), (show _ = (0 : Nat) from wf.2.2.2.2.2.2.2.2.2.2.2.2.2.1 0), wpa, (show ∀ n : Nat, _ = n from fun n => wfa.2.2.2.2.2.2.2.2.2.2.2.2.2.1 (Int.ofNat n)), (show _ = (0 : Nat) from wfa.2.2.2.2.2.2.2.2.2.2.2.2.2.1 0), getL, takeL, dropL, TK.isAgg, reduceIte])
        repeat' first | with_reducible refine And.intro ?_ ?_ | intro c9
        all_goals first | exact (by (try simp only [wf, wfa, nc, nc', Int.toNat_natCast, bsz, ByteArray.size_append, List.length_cons, List.length_nil] at *); (try simp (disch := omega) only [w64, w32, wu8] at *); first | done | omega) | trivial | skip
        refine hBk ⟨i + 1, k + 1, c1, ext V1 k (V i), ext P1 k (P0 i)⟩ _ (by dsimp only; omega) ⟨by dsimp only; omega, by dsimp only; omega, by dsimp only; rw [lst_ext, lst, big_snoc, i3]; unfold big1; rw [if_neg hV], by dsimp only; rw [lst, sc_snoc, if_neg hV]; exact i4, fun j hj hj2 => ?_⟩ ?_
        · by_cases e2 : j = i
          · subst e2; exact absurd hj2 hV
          · exact i5 j (by dsimp only at hj; omega) hj2
        · (cbv; try simp only [wf, wfa, exD, exL, exT, exB, exA, leLs, leL_d, leL_undef, leL_nils, leA_nils, deq_refl, deq_int, deq_bool, deq_str, and_true, true_and, AObj.iter.injEq, nc, nc']; try simp (disch := omega) only [w64, w32, wu8])
          ((try simp only [wf, wfa, nc, nc', Int.toNat_natCast, bsz, ByteArray.size_append, List.length_cons, List.length_nil] at *); (try simp (disch := omega) only [w64, w32, wu8] at *))
          exact ⟨by omega, Nat.le_refl _, Nat.zero_le _, fun x j hx hj => .of_eq (ext_row _ _ _ _ _ x j hx hj)⟩
      · have hV : V i < m := (by (try simp only [wf, wfa, nc, nc', Int.toNat_natCast, bsz, ByteArray.size_append, List.length_cons, List.length_nil] at *); (try simp (disch := omega) only [w64, w32, wu8] at *); first | done | omega)
        have hV0 : 0 ≤ V i := (v.2.2.2 i e).1
        have hNi := hN (V i).toNat (by omega)
        have vi := (v.2.2.2 i e).2.2
        have key6 : SubP c n V P0 m C N W Q → ValidP (C (V i).toNat) (N (V i).toNat) (W (V i).toNat) (Q (V i).toNat) := fun h => h.2 i e hV
        (refine Later.mk ?_; cbv; try simp only [wp, (show ∀ n : Nat, _ = n from fun n => wf.2.2.2.2.2.2.2.2.2.2.2.2.2.1 (Int.ofNat n)), (show _ = (0 : Nat) from wf.2.2.2.2.2.2.2.2.2.2.2.2.2.1 0), wpa, (show ∀ n : Nat, _ = n from fun n => wfa.2.2.2.2.2.2.2.2.2.2.2.2.2.1 (Int.ofNat n)), (show _ = (0 : Nat) from wfa.2.2.2.2.2.2.2.2.2.2.2.2.2.1 0), getL, takeL, dropL, TK.isAgg, reduceIte])
        repeat' first | with_reducible refine And.intro ?_ ?_ | intro c9
        all_goals first | exact (by (try simp only [wf, wfa, nc, nc', Int.toNat_natCast, bsz, ByteArray.size_append, List.length_cons, List.length_nil] at *); (try simp (disch := omega) only [w64, w32, wu8] at *); first | done | omega) | trivial | skip
        obtain ⟨z, hz⟩ : ∃ z, z = (V i).toNat := ⟨_, rfl⟩
        have hz2 : V i = z := by omega
        rw [← hz] at hNi key6
        refine (RValid _ _ _ _ (by ((try simp only [wf, wfa, nc, nc', Int.toNat_natCast, bsz, ByteArray.size_append, List.length_cons, List.length_nil] at *); (try simp (disch := omega) only [w64, w32, wu8] at *)); rw [← hz]; exact hNi)).call ?_
        rintro _ ⟨b, hb, rfl⟩
        rcases hb.dich with ⟨rfl, v'⟩ | ⟨rfl, v'⟩ <;> clear hb <;> (cbv; try simp only [wp, (show ∀ n : Nat, _ = n from fun n => wf.2.2.2.2.2.2.2.2.2.2.2.2.2.1 (Int.ofNat n)), (show _ = (0 : Nat) from wf.2.2.2.2.2.2.2.2.2.2.2.2.2.1 0), wpa, (show ∀ n : Nat, _ = n from fun n => wfa.2.2.2.2.2.2.2.2.2.2.2.2.2.1 (Int.ofNat n)), (show _ = (0 : Nat) from wfa.2.2.2.2.2.2.2.2.2.2.2.2.2.1 0), getL, takeL, dropL, TK.isAgg, reduceIte])
        · have v2 : ValidP (C z) (N z) (W z) (Q z) := by
            ((try simp only [wf, wfa, nc, nc', Int.toNat_natCast, bsz, ByteArray.size_append, List.length_cons, List.length_nil] at *); (try simp (disch := omega) only [w64, w32, wu8] at *))
            rw [← hz] at v'
            exact v'
          have hb : ∀ j, j < N z → 0 ≤ Q z j ∧ Q z j ≤ 1000 := fun j hj => ⟨(v2.2.2.2 j hj).2.2.1, (v2.2.2.2 j hj).2.2.2.1⟩
          have hN8 := v2.2.2.1
          have hC := v2.2.1
          have hC0 := v2.1
          clear v'
          (refine Later.mk ?_; cbv; try simp only [wp, (show ∀ n : Nat, _ = n from fun n => wf.2.2.2.2.2.2.2.2.2.2.2.2.2.1 (Int.ofNat n)), (show _ = (0 : Nat) from wf.2.2.2.2.2.2.2.2.2.2.2.2.2.1 0), wpa, (show ∀ n : Nat, _ = n from fun n => wfa.2.2.2.2.2.2.2.2.2.2.2.2.2.1 (Int.ofNat n)), (show _ = (0 : Nat) from wfa.2.2.2.2.2.2.2.2.2.2.2.2.2.1 0), getL, takeL, dropL, TK.isAgg, reduceIte])
          repeat' first | with_reducible refine And.intro ?_ ?_ | intro c9
          all_goals first | exact (by (try simp only [wf, wfa, nc, nc', Int.toNat_natCast, bsz, ByteArray.size_append, List.length_cons, List.length_nil] at *); (try simp (disch := omega) only [w64, w32, wu8] at *); first | done | omega) | trivial | skip
          obtain ⟨qf, hqf⟩ : ∃ qf, qf = fun j => Q z j + P0 i := ⟨_, rfl⟩
          refine (rmoreF _ _ _ _ qf _ (by ((try simp only [wf, wfa, nc, nc', Int.toNat_natCast, bsz, ByteArray.size_append, List.length_cons, List.length_nil] at *); (try simp (disch := omega) only [w64, w32, wu8] at *)); rw [← hz]; omega) (fun j hj => by ((try simp only [wf, wfa, nc, nc', Int.toNat_natCast, bsz, ByteArray.size_append, List.length_cons, List.length_nil] at *); (try simp (disch := omega) only [w64, w32, wu8] at *)); rw [← hz] at hj ⊢; have := hb j hj; omega) (by omega) (fun j _ => by ((try simp only [wf, wfa, nc, nc', Int.toNat_natCast, bsz, ByteArray.size_append, List.length_cons, List.length_nil] at *); (try simp (disch := omega) only [w64, w32, wu8] at *)); rw [← hz, hqf])).call ?_
          rintro _ rfl
          (cbv; try simp only [wp, (show ∀ n : Nat, _ = n from fun n => wf.2.2.2.2.2.2.2.2.2.2.2.2.2.1 (Int.ofNat n)), (show _ = (0 : Nat) from wf.2.2.2.2.2.2.2.2.2.2.2.2.2.1 0), wpa, (show ∀ n : Nat, _ = n from fun n => wfa.2.2.2.2.2.2.2.2.2.2.2.2.2.1 (Int.ofNat n)), (show _ = (0 : Nat) from wfa.2.2.2.2.2.2.2.2.2.2.2.2.2.1 0), getL, takeL, dropL, TK.isAgg, reduceIte])
          repeat' first | with_reducible refine And.intro ?_ ?_ | intro c9
          all_goals first | exact (by (try simp only [wf, wfa, nc, nc', Int.toNat_natCast, bsz, ByteArray.size_append, List.length_cons, List.length_nil] at *); (try simp (disch := omega) only [w64, w32, wu8] at *); first | done | omega) | trivial | skip
          · ((try simp only [wf, wfa, nc, nc', Int.toNat_natCast, bsz, ByteArray.size_append, List.length_cons, List.length_nil] at *); (try simp (disch := omega) only [w64, w32, wu8] at *))
            rw [← hz]
            omega
          have happ := fun x j hj => catF_app V1 P1 (W z) qf k x j hj
          have hlst := catF_lst V1 P1 (W z) qf k (N z)
          obtain ⟨k2, hk2⟩ : ∃ k2, k2 = k + N z := ⟨_, rfl⟩
          obtain ⟨c2, hc2⟩ : ∃ c2, c2 = max c1 (C z + P0 i) := ⟨_, rfl⟩
          obtain ⟨fv, hfv⟩ : ∃ fv, fv = catF V1 k (W z) := ⟨_, rfl⟩
          obtain ⟨fp, hfp⟩ : ∃ fp, fp = catF P1 k qf := ⟨_, rfl⟩
          rw [← hfv, ← hfp] at happ hlst
          rw [← hk2] at hlst
          refine hBk ⟨i + 1, k2, c2, fv, fp⟩ _ (by dsimp only; omega) ⟨by dsimp only; omega, by dsimp only; omega, ?_, ?_, fun j hj hj2 => ?_⟩ ?_
          · dsimp only
            rw [hlst, lst, big_snoc, i3]
            unfold big1
            rw [if_pos hV]
            dsimp only
            rw [← hz, hqf, lst_add_map]
          · dsimp only
            rw [lst, sc_snoc, if_pos hV, ← i4, hc2]
            dsimp only
            rw [← hz]
          · by_cases e2 : j = i
            · subst e2; rw [← hz]; exact v2
            · exact i5 j (by dsimp only at hj; omega) hj2
          · (cbv; try simp only [wf, wfa, exD, exL, exT, exB, exA, leLs, leL_d, leL_undef, leL_nils, leA_nils, deq_refl, deq_int, deq_bool, deq_str, and_true, true_and, AObj.iter.injEq, nc, nc']; try simp (disch := omega) only [w64, w32, wu8])
            ((try simp only [wf, wfa, nc, nc', Int.toNat_natCast, bsz, ByteArray.size_append, List.length_cons, List.length_nil] at *); (try simp (disch := omega) only [w64, w32, wu8] at *))
            rw [← hz]
            ((try simp only [wf, wfa, nc, nc', Int.toNat_natCast, bsz, ByteArray.size_append, List.length_cons, List.length_nil] at *); (try simp (disch := omega) only [w64, w32, wu8] at *))
            exact ⟨⟨by rw [hc2]; split <;> omega, by rw [hk2], by omega⟩, hk2.symm, Nat.le_refl _, Nat.zero_le _, fun x j hx hj => .of_eq (happ x j hj)⟩
        · (refine Later.mk ?_; cbv; try simp only [wp, (show ∀ n : Nat, _ = n from fun n => wf.2.2.2.2.2.2.2.2.2.2.2.2.2.1 (Int.ofNat n)), (show _ = (0 : Nat) from wf.2.2.2.2.2.2.2.2.2.2.2.2.2.1 0), wpa, (show ∀ n : Nat, _ = n from fun n => wfa.2.2.2.2.2.2.2.2.2.2.2.2.2.1 (Int.ofNat n)), (show _ = (0 : Nat) from wfa.2.2.2.2.2.2.2.2.2.2.2.2.2.1 0), getL, takeL, dropL, TK.isAgg, reduceIte])
          repeat' first | trivial | with_reducible refine And.intro ?_ ?_ | intro c9
          all_goals exact hR _ _ _ (frz_err 4 _) (.inl ⟨fun h => v' (by have h7 := key6 h; ((try simp only [wf, wfa, nc, nc', Int.toNat_natCast, bsz, ByteArray.size_append, List.length_cons, List.length_nil] at *); (try simp (disch := omega) only [w64, w32, wu8] at *)); rw [← hz]; exact h7), .err 4⟩)
    · obtain rfl : i = n := (by (try simp only [wf, wfa, nc, nc', Int.toNat_natCast, bsz, ByteArray.size_append, List.length_cons, List.length_nil] at *); (try simp (disch := omega) only [w64, w32, wu8] at *); first | done | omega)
      (refine Later.mk ?_; cbv; try simp only [wp, (show ∀ n : Nat, _ = n from fun n => wf.2.2.2.2.2.2.2.2.2.2.2.2.2.1 (Int.ofNat n)), (show _ = (0 : Nat) from wf.2.2.2.2.2.2.2.2.2.2.2.2.2.1 0), wpa, (show ∀ n : Nat, _ = n from fun n => wfa.2.2.2.2.2.2.2.2.2.2.2.2.2.1 (Int.ofNat n)), (show _ = (0 : Nat) from wfa.2.2.2.2.2.2.2.2.2.2.2.2.2.1 0), getL, takeL, dropL, TK.isAgg, reduceIte])
      repeat' first | trivial | with_reducible refine And.intro ?_ ?_ | intro c9
      (refine CallW.frz @fun ⟨_, _, _, _, _, _, _, _, _, _, _, _, _, _, _, _, _, _, _, _, _, _, _, _, _, _, _, _, _, _, _, _, _, _, _, _, _, _, wpz, wfz⟩ => ?_; cbv; try simp only [wpz, wp, (show ∀ n : Nat, _ = n from fun n => wfz.2.2.2.2.2.2.2.2.2.2.2.2.2.1 (Int.ofNat n)), getL, takeL, dropL, TK.isAgg, reduceIte])
      repeat' first | trivial | with_reducible refine And.intro ?_ ?_ | intro c9
      refine (rcanonical c1 k V1 P1 (by omega) (by have := sc_ge m C c (lst V P0 i); omega)).call ?_
      rintro _ ⟨c2, m2, V2, P2, h1, h2, h3, rfl⟩
      (cbv; try simp only [wp, (show ∀ n : Nat, _ = n from fun n => wf.2.2.2.2.2.2.2.2.2.2.2.2.2.1 (Int.ofNat n)), (show _ = (0 : Nat) from wf.2.2.2.2.2.2.2.2.2.2.2.2.2.1 0), wpa, (show ∀ n : Nat, _ = n from fun n => wfa.2.2.2.2.2.2.2.2.2.2.2.2.2.1 (Int.ofNat n)), (show _ = (0 : Nat) from wfa.2.2.2.2.2.2.2.2.2.2.2.2.2.1 0), getL, takeL, dropL, TK.isAgg, reduceIte])
      repeat' first | trivial | with_reducible refine And.intro ?_ ?_ | intro c9
      refine (fits c2 m2 V2 P2 (by omega)).call ?_
      intro r hr
      have ⟨c3, n3, V3, P3, e2, e, _⟩ := hr
      subst e
      (cbv; try simp only [wp, (show ∀ n : Nat, _ = n from fun n => wf.2.2.2.2.2.2.2.2.2.2.2.2.2.1 (Int.ofNat n)), (show _ = (0 : Nat) from wf.2.2.2.2.2.2.2.2.2.2.2.2.2.1 0), wpa, (show ∀ n : Nat, _ = n from fun n => wfa.2.2.2.2.2.2.2.2.2.2.2.2.2.1 (Int.ofNat n)), (show _ = (0 : Nat) from wfa.2.2.2.2.2.2.2.2.2.2.2.2.2.1 0), getL, takeL, dropL, TK.isAgg, reduceIte])
      repeat' first | trivial | with_reducible refine And.intro ?_ ?_ | intro c9
      all_goals exact hR _ _ _ (hr.frz _) (.inr ⟨⟨v, i5⟩, by rw [← i3, ← i4]; exact rcf h1 h3 hr⟩)
  · exact hR _ _ _ (frz_err 4 _) (.inl ⟨fun h => v h.1, .err 4⟩)
end Go.VM
