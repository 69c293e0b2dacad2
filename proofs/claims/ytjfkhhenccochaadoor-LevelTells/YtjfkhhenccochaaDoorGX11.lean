/- Part of the proof: LA7. -/
import Derived.Test.YtjfkhhenccochaaDoorGX10
import Derived.Test.YtjfkhhenccochaaDoorGX8
namespace Go.VM
open Go.Proofs Go
set_option maxRecDepth 100000
set_option linter.unusedVariables false
set_option linter.unusedSimpArgs false
theorem shl1 : ∀ u : Nat, u ≤ 5 → IntKind.i64.wrap (1 * 2 ^ (min u IntKind.i64.bits)) = ((2 ^ u : Nat) : Int)
  | 0, _ => by decide
  | 1, _ => by decide
  | 2, _ => by decide
  | 3, _ => by decide
  | 4, _ => by decide
  | 5, _ => by decide
theorem pickbit : ∀ p : Nat, p < 32 → ∀ i : Nat, i < 5 → IntKind.i64.wrap (bitF BinOp.and .i64 ((p : Int).fdiv (2 ^ (min i IntKind.i64.bits))) 1 * 1001) = wP p i := by decide
theorem evalR_pick {c : Int} {n u top k : Nat} {V P0 U w : Nat → Int} {r : A} (h : EvalR c n V P0 top (pickN U w k) r) (v : ValidP c n V P0) (ha : ascF U u) (hs : ∀ i, i < n → ∃ j, j < u ∧ U j = V i)
    (ht : (top : Int) = (if u = 0 then 0 else U (u - 1) + 1)) (hw : ∀ j, 0 ≤ w j ∧ w j ≤ 2000000000) : r = .tup [.d (.int .i64 (evV V P0 (pickF U w k) c n)), .d (.int .i64 0)] := by
  obtain ⟨x, e, rfl, _, h2⟩ := h
  obtain ⟨rfl, rfl⟩ := (h2 v).2 _ (eval_pick (k := k) ha hs (fun i hi => (v.2.2.2 i hi).1) ht hw)
  rfl
theorem tellT {eA eB : Nat → Int} {p : Nat} (h : true = true ↔ ∀ q, q < p → eA q ≤ eB q) (h2 : eA p ≤ eB p) : true = true ↔ ∀ q, q < p + 1 → eA q ≤ eB q :=
  ⟨fun _ q hq => by
    by_cases e : q = p
    · subst e; exact h2
    · exact h.1 rfl q (by omega), fun _ => rfl⟩
theorem tellF1 {eA eB : Nat → Int} {p : Nat} (h : false = true ↔ ∀ q, q < p → eA q ≤ eB q) : false = true ↔ ∀ q, q < p + 1 → eA q ≤ eB q :=
  ⟨fun h => (by cases h), fun h2 => h.2 fun q hq => h2 q (by omega)⟩
theorem tellF2 {eA eB : Nat → Int} {p : Nat} (h : eB p < eA p) : false = true ↔ ∀ q, q < p + 1 → eA q ≤ eB q :=
  ⟨fun h => (by cases h), fun h2 => by have := h2 p (by omega); omega⟩
/-- the numbers of the second assignment -/
def wQ (m : Nat) (N : Nat → Int) (j : Nat) : Int := if j < m then N j % 2000000001 else 0
theorem wQ_range {m : Nat} {N : Nat → Int} (j : Nat) : 0 ≤ wQ m N j ∧ wQ m N j ≤ 2000000000 := by unfold wQ; split <;> omega
theorem u32wf {x : Int} (h : (Lit.int .u32 x).wf = true) : 0 ≤ x ∧ x ≤ 4294967295 := by
  simp [Lit.wf, IntKind.min, IntKind.max, IntKind.bits, IntKind.signed] at h
  omega
theorem tops {c c' : Int} {n n' u : Nat} {V P0 V' P' U : Nat → Int} (v : ValidP c n V P0) (v' : ValidP c' n' V' P') (hu : VarsP (catF V n V') (n + n') U u) :
    ∃ top : Nat, (top : Int) = (if u = 0 then 0 else U (u - 1) + 1) ∧ top ≤ 1200 ∧ ∀ j, j < u → 0 ≤ U j ∧ U j < top := by
  have hr : ∀ j, j < u → 0 ≤ U j ∧ U j < 1200 := fun j hj => by
    obtain ⟨i, hi, e⟩ := hu.2.2 j hj
    rw [← e]
    unfold catF
    split
    · rename_i h
      have := v.2.2.2 i h
      exact ⟨this.1, this.2.1⟩
    · have := v'.2.2.2 (i - n) (by omega)
      exact ⟨this.1, this.2.1⟩
  by_cases e : u = 0
  · exact ⟨0, by rw [if_pos e]; rfl, Nat.zero_le _, fun j hj => by omega⟩
  · have := hr (u - 1) (by omega)
    refine ⟨(U (u - 1) + 1).toNat, by rw [if_neg e]; omega, by omega, fun j hj => ⟨(hr j hj).1, ?_⟩⟩
    have := hu.1.le hj
    omega
set_option maxHeartbeats 4000000 in
theorem lawTells (c c' : Int) (n n' : Nat) (V P0 V' P' : Nat → Int) (m : Nat) (N : Nat → Int) (hn : n < 2 ^ 63) (hn' : n' < 2 ^ 63) (hm : m < 2 ^ 63) (hN : ∀ i, i < m → (Lit.int .u32 (N i)).wf = true) : VFun (P ()) 5 [lv c n V P0, lv c' n' V' P', .d (.sl m 1 (nsF .u32 N))] (fun r => r = .d (.bool true)) := by
  refine vfunO (Tf := fun {_} _ => fzT [3, 4] (T ())) (fun {_} => tabOk.frz [3, 4]) [(17, upF 0 12), (29, upF 0 13)] 400 Tryd.func5 rfl (fun {_} => by kernel_rfl) rfl (Nat.le_of_ble_eq_true rfl) @fun ⟨_, _, _, _, _, _, _, _, _, _, _, _, _, _, _, _, _, _, _, _, _, _, _, _, _, _, _, _, _, _, _, _, _, _, _, _, _, _, wp, wf⟩ R hR => ?_
  cbv
  try simp only [wp, (show ∀ n : Nat, _ = n from fun n => wf.2.2.2.2.2.2.2.2.2.2.2.2.2.1 (Int.ofNat n)), getL, takeL, dropL, TK.isAgg, reduceIte]
  replace hR := fun H => hR _ H _ (.d (.bool true)) rfl
  refine (RValid c n V P0 hn).call ?_
  rintro _ ⟨b, hb, rfl⟩
  rcases hb.dich with ⟨rfl, v⟩ | ⟨rfl, v⟩ <;> clear hb <;> (cbv; try simp only [wp, (show ∀ n : Nat, _ = n from fun n => wf.2.2.2.2.2.2.2.2.2.2.2.2.2.1 (Int.ofNat n)), (show _ = (0 : Nat) from wf.2.2.2.2.2.2.2.2.2.2.2.2.2.1 0), getL, takeL, dropL, TK.isAgg, reduceIte])
  · repeat' first | trivial | with_reducible refine And.intro ?_ ?_ | intro c9
    refine (RValid c' n' V' P' hn').call ?_
    rintro _ ⟨b, hb, rfl⟩
    rcases hb.dich with ⟨rfl, v'⟩ | ⟨rfl, v'⟩ <;> clear hb <;> (cbv; try simp only [wp, (show ∀ n : Nat, _ = n from fun n => wf.2.2.2.2.2.2.2.2.2.2.2.2.2.1 (Int.ofNat n)), (show _ = (0 : Nat) from wf.2.2.2.2.2.2.2.2.2.2.2.2.2.1 0), getL, takeL, dropL, TK.isAgg, reduceIte])
    · (refine Later.mk ?_; cbv; try simp only [wp, (show ∀ n : Nat, _ = n from fun n => wf.2.2.2.2.2.2.2.2.2.2.2.2.2.1 (Int.ofNat n)), (show _ = (0 : Nat) from wf.2.2.2.2.2.2.2.2.2.2.2.2.2.1 0), getL, takeL, dropL, TK.isAgg, reduceIte])
      have h8 := v.2.2.1
      have h8' := v'.2.2.1
      have happ : ∀ x j, j < 2 → appF (0 + n) (appF 0 (rowF 2 []) (lvF V P0)) (lvF V' P') x j = lvF (catF V n V') (catF P0 n P') x j := fun x j hj => by
        rw [Nat.zero_add, show appF 0 (rowF 2 []) (lvF V P0) = lvF V P0 from by funext x j; simp [appF]]
        exact catF_app _ _ _ _ _ x j hj
      apply both
      case h =>
        intro key
        repeat' first | (clear key; trivial) | with_reducible refine And.intro ?_ ?_ | (show CallW _ _ _ _ _; exact key) | (clear key; show _ ≤ _; exact (by (try simp only [wf, nc, nc', Int.toNat_natCast, bsz, ByteArray.size_append, List.length_cons, List.length_nil] at *); (try simp (disch := omega) only [w64, w32, wu8] at *); first | done | omega))
      case g =>
        (refine CallW.frz @fun ⟨_, _, _, _, _, _, _, _, _, _, _, _, _, _, _, _, _, _, _, _, _, _, _, _, _, _, _, _, _, _, _, _, _, _, _, _, _, _, wpz, wfz⟩ => ?_; cbv; try simp only [wpz, wp, (show ∀ n : Nat, _ = n from fun n => wfz.2.2.2.2.2.2.2.2.2.2.2.2.2.1 (Int.ofNat n)), getL, takeL, dropL, TK.isAgg, reduceIte])
        repeat' first | trivial | with_reducible refine And.intro ?_ ?_ | intro c9
        refine CallW.args (args' := [lv 0 (n + n') (catF V n V') (catF P0 n P')]) (fun {_ _} => ⟨⟨_, rfl, .refl _, ?_, trivial⟩, trivial⟩) ((RVars 0 (n + n') _ _ (by omega)).call ?_)
        · ((try simp only [wf, nc, nc', Int.toNat_natCast, bsz, ByteArray.size_append, List.length_cons, List.length_nil] at *); (try simp (disch := omega) only [w64, w32, wu8] at *))
          rw [show 0 + n + n' = n + n' by omega]
          exact .sl _ _ _ _ fun x j _ hj => .of_eq (happ x j hj)
        clear happ
        rintro _ ⟨u, U, hu, hul, rfl⟩
        (cbv; try simp only [wp, (show ∀ n : Nat, _ = n from fun n => wf.2.2.2.2.2.2.2.2.2.2.2.2.2.1 (Int.ofNat n)), (show _ = (0 : Nat) from wf.2.2.2.2.2.2.2.2.2.2.2.2.2.1 0), getL, takeL, dropL, TK.isAgg, reduceIte])
        refine ⟨fun c9 => ?_, fun c9 => ?_⟩
        · (refine Later.mk ?_; cbv; try simp only [wp, (show ∀ n : Nat, _ = n from fun n => wf.2.2.2.2.2.2.2.2.2.2.2.2.2.1 (Int.ofNat n)), (show _ = (0 : Nat) from wf.2.2.2.2.2.2.2.2.2.2.2.2.2.1 0), getL, takeL, dropL, TK.isAgg, reduceIte])
          exact hR _
        have hu5 : u ≤ 5 := (by (try simp only [wf, nc, nc', Int.toNat_natCast, bsz, ByteArray.size_append, List.length_cons, List.length_nil] at *); (try simp (disch := omega) only [w64, w32, wu8] at *); first | done | omega)
        refine ⟨fun c9 => ?_, fun c9 => ?_⟩
        · (refine Later.mk ?_; cbv; try simp only [wp, (show ∀ n : Nat, _ = n from fun n => wf.2.2.2.2.2.2.2.2.2.2.2.2.2.1 (Int.ofNat n)), (show _ = (0 : Nat) from wf.2.2.2.2.2.2.2.2.2.2.2.2.2.1 0), getL, takeL, dropL, TK.isAgg, reduceIte])
          exact hR _
        have hm40 : m ≤ 40 := (by (try simp only [wf, nc, nc', Int.toNat_natCast, bsz, ByteArray.size_append, List.length_cons, List.length_nil] at *); (try simp (disch := omega) only [w64, w32, wu8] at *); first | done | omega)
        (refine Later.mk ?_; cbv; try simp only [wp, (show ∀ n : Nat, _ = n from fun n => wf.2.2.2.2.2.2.2.2.2.2.2.2.2.1 (Int.ofNat n)), (show _ = (0 : Nat) from wf.2.2.2.2.2.2.2.2.2.2.2.2.2.1 0), getL, takeL, dropL, TK.isAgg, reduceIte])
        repeat' first | with_reducible refine And.intro ?_ ?_ | intro c9
        all_goals (refine Later.mk ?_; cbv; try simp only [wp, (show ∀ n : Nat, _ = n from fun n => wf.2.2.2.2.2.2.2.2.2.2.2.2.2.1 (Int.ofNat n)), (show _ = (0 : Nat) from wf.2.2.2.2.2.2.2.2.2.2.2.2.2.1 0), getL, takeL, dropL, TK.isAgg, reduceIte])
        all_goals repeat' first | with_reducible refine And.intro ?_ ?_ | intro c9
        all_goals first | exact (by (try simp only [wf, nc, nc', Int.toNat_natCast, bsz, ByteArray.size_append, List.length_cons, List.length_nil] at *); (try simp (disch := omega) only [w64, w32, wu8] at *); first | done | omega) | skip
        all_goals
          obtain ⟨top, ht, ht2, htl⟩ : ∃ top : Nat, (top : Int) = (if u = 0 then 0 else U (u - 1) + 1) ∧ top ≤ 1200 ∧ ∀ j, j < u → 0 ≤ U j ∧ U j < top := tops v v' hu
          have hsA : ∀ i, i < n → ∃ j, j < u ∧ U j = V i := hu.sub fun i hi => ⟨i, by omega, if_pos hi⟩
          have hsB : ∀ i, i < n' → ∃ j, j < u ∧ U j = V' i := hu.sub fun i hi => ⟨n + i, by omega, by unfold catF; rw [if_neg (by omega), show n + i - n = i by omega]⟩
          obtain ⟨tw, htw⟩ : ∃ tw, tw = 2 ^ u := ⟨_, rfl⟩
          have htw5 : tw ≤ 32 := by rw [htw]; exact Nat.pow_le_pow_right (n := 2) (by decide) hu5
          obtain ⟨eA, heA⟩ : ∃ eA : Nat → Int, ∀ p, eA p = evV V P0 (pickF U (wP p) u) c n := ⟨_, fun _ => rfl⟩
          obtain ⟨eB, heB⟩ : ∃ eB : Nat → Int, ∀ p, eB p = evV V' P' (pickF U (wP p) u) c' n' := ⟨_, fun _ => rfl⟩
          refine loopO (Tf := fun {_} _ => fzT [3, 4] (T ())) (fun {_} => tabOk.frz [3, 4]) [(17, upF 0 12), (29, upF 0 13)] 400 (fun y : Nat × Bool => ⟨[.undef, .undef, .d (.sl m 1 (nsF .u32 N)), .iptr (fun x j => getL [.int .i64 c, .sl n 2 (lvF V P0)] j .nilp) 0 0 2, .iptr (fun x j => getL [.int .i64 c', .sl n' 2 (lvF V' P')] j .nilp) 0 0 2, .undef, .d (.bool false), .d (.sl u 1 (nsF .i64 U)), .d (.int .i64 top), .d (.bool y.2), .d (.int .i64 y.1), .undef, .undef, .undef, .undef, .undef, .undef, .undef, .undef, .undef, .undef, .undef, .undef, .undef, .undef, .undef, .undef, .undef, .undef, .undef, .undef, .undef, .undef, .undef, .undef, .undef, .undef, .undef, .undef, .undef, .undef, .undef, .undef, .undef, .undef, .undef, .undef, .undef, .undef, .undef, .undef, .undef, .undef, .undef, .undef, .undef, .undef, .undef, .undef, .undef, .undef, .undef, .undef, .undef, .undef, .undef, .undef, .undef, .undef, .undef, .undef, .undef, .undef, .undef, .undef, .undef, .undef, .undef, .undef, .undef, .undef, .undef, .undef, .undef, .undef, .undef, .undef, .undef, .undef, .undef, .undef, .undef, .undef, .undef, .undef, .undef, .undef, .undef, .undef, .undef, .undef, .undef, .undef, .undef, .undef, .undef, .undef, .undef, .undef, .undef, .undef, .undef, .undef, .undef, .undef, .undef, .undef, .undef, .undef, .undef, .undef, .undef, .undef, .undef, .undef, .undef, .undef, .undef, .undef, .undef, .undef, .undef, .undef, .undef, .undef, .undef, .undef, .undef, .undef, .undef, .undef, .undef, .undef, .undef, .undef, .undef, .undef, .undef, .undef, .undef, .undef, .undef, .undef, .undef, .undef, .undef, .undef, .undef, .undef, .undef, .undef, .undef, .undef, .undef, .undef, .undef, .undef, .undef, .undef], []⟩) (fun y => tw - y.1) (fun y => y.1 ≤ tw ∧ (y.2 = true ↔ ∀ q, q < y.1 → eA q ≤ eB q)) (0, true) ⟨Nat.zero_le _, fun _ q hq => absurd hq (Nat.not_lt_zero _), fun _ => rfl⟩ (fun {_} => by kernel_rfl) ?_ (fun i => by kernel_rfl) @fun ⟨_, _, _, _, _, _, _, _, _, _, _, _, _, _, _, _, _, _, _, _, _, _, _, _, _, _, _, _, _, _, _, _, _, _, _, _, _, _, wpa, wfa⟩ ⟨p, al⟩ Bk hi hBk => ?_
          · (cbv; try simp only [wf, exD, exL, exT, exB, exA, leLs, leL_d, leL_undef, leL_nils, leA_nils, deq_refl, deq_int, deq_bool, deq_str, and_true, true_and, AObj.iter.injEq, nc, nc']; try simp (disch := omega) only [w64, w32, wu8])
            ((try simp only [wf, nc, nc', Int.toNat_natCast, bsz, ByteArray.size_append, List.length_cons, List.length_nil] at *); (try simp (disch := omega) only [w64, w32, wu8] at *))
            rw [ht]
            first
            | (rw [if_neg (by omega), show ((u : Int) - 1).toNat = u - 1 by omega]
               have hlast := htl (u - 1) (by omega)
               exact ⟨w64 (by omega) (by omega), rfl⟩)
            | (rw [if_pos (by omega)]
               exact ⟨rfl, rfl⟩)
          obtain ⟨i1, i2⟩ := hi
          dsimp only at i1 i2
          (cbv; try simp only [wp, (show ∀ n : Nat, _ = n from fun n => wf.2.2.2.2.2.2.2.2.2.2.2.2.2.1 (Int.ofNat n)), (show _ = (0 : Nat) from wf.2.2.2.2.2.2.2.2.2.2.2.2.2.1 0), wpa, (show ∀ n : Nat, _ = n from fun n => wfa.2.2.2.2.2.2.2.2.2.2.2.2.2.1 (Int.ofNat n)), (show _ = (0 : Nat) from wfa.2.2.2.2.2.2.2.2.2.2.2.2.2.1 0), getL, takeL, dropL, TK.isAgg, reduceIte])
          refine ⟨(by (try simp only [wf, wfa, nc, nc', Int.toNat_natCast, bsz, ByteArray.size_append, List.length_cons, List.length_nil] at *); (try simp (disch := omega) only [w64, w32, wu8] at *); first | done | omega), fun e => ?_, fun e => ?_⟩
          · have e : p < tw := by ((try simp only [wf, wfa, nc, nc', Int.toNat_natCast, bsz, ByteArray.size_append, List.length_cons, List.length_nil] at *); (try simp (disch := omega) only [w64, w32, wu8] at *)); rw [shl1 u hu5, ← htw] at e; omega
            (refine Later.mk ?_; cbv; try simp only [wp, (show ∀ n : Nat, _ = n from fun n => wf.2.2.2.2.2.2.2.2.2.2.2.2.2.1 (Int.ofNat n)), (show _ = (0 : Nat) from wf.2.2.2.2.2.2.2.2.2.2.2.2.2.1 0), wpa, (show ∀ n : Nat, _ = n from fun n => wfa.2.2.2.2.2.2.2.2.2.2.2.2.2.1 (Int.ofNat n)), (show _ = (0 : Nat) from wfa.2.2.2.2.2.2.2.2.2.2.2.2.2.1 0), getL, takeL, dropL, TK.isAgg, reduceIte])
            repeat' first | with_reducible refine And.intro ?_ ?_ | intro c9
            all_goals first | exact (by (try simp only [wf, wfa, nc, nc', Int.toNat_natCast, bsz, ByteArray.size_append, List.length_cons, List.length_nil] at *); (try simp (disch := omega) only [w64, w32, wu8] at *); first | done | omega) | trivial | skip
            refine loopO (Tf := fun {_} _ => fzT [3, 4] (T ())) (fun {_} => tabOk.frz [3, 4]) [(17, upF 0 12), (29, upF 0 13)] 400 (fun i : Nat => ⟨[.undef, .undef, .d (.sl m 1 (nsF .u32 N)), .iptr (fun x j => getL [.int .i64 c, .sl n 2 (lvF V P0)] j .nilp) 0 0 2, .iptr (fun x j => getL [.int .i64 c', .sl n' 2 (lvF V' P')] j .nilp) 0 0 2, .undef, .d (.bool false), .d (.sl u 1 (nsF .i64 U)), .d (.int .i64 top), .d (.bool al), .d (.int .i64 p), .ref 0 0 top 1, .d (.int .i64 i), .undef, .undef, .undef, .undef, .undef, .undef, .undef, .undef, .undef, .undef, .undef, .undef, .undef, .undef, .undef, .undef, .undef, .undef, .undef, .undef, .undef, .undef, .undef, .undef, .undef, .undef, .undef, .undef, .undef, .undef, .undef, .undef, .undef, .undef, .undef, .undef, .undef, .undef, .undef, .undef, .undef, .undef, .undef, .undef, .undef, .undef, .undef, .undef, .undef, .undef, .undef, .undef, .undef, .undef, .undef, .undef, .undef, .undef, .undef, .undef, .undef, .undef, .undef, .undef, .undef, .undef, .undef, .undef, .undef, .undef, .undef, .undef, .undef, .undef, .undef, .undef, .undef, .undef, .undef, .undef, .undef, .undef, .undef, .undef, .undef, .undef, .undef, .undef, .undef, .undef, .undef, .undef, .undef, .undef, .undef, .undef, .undef, .undef, .undef, .undef, .undef, .undef, .undef, .undef, .undef, .undef, .undef, .undef, .undef, .undef, .undef, .undef, .undef, .undef, .undef, .undef, .undef, .undef, .undef, .undef, .undef, .undef, .undef, .undef, .undef, .undef, .undef, .undef, .undef, .undef, .undef, .undef, .undef, .undef, .undef, .undef, .undef, .undef, .undef, .undef, .undef, .undef, .undef, .undef, .undef, .undef, .undef, .undef, .undef, .undef, .undef, .undef, .undef, .undef, .undef, .undef], [.arr top 1 (nsF .i64 (pickN U (wP p) i)) 0]⟩) (fun i => u - i) (fun i => i ≤ u) 0 (Nat.zero_le _) (fun {_} => by kernel_rfl) ?_ (fun i => by kernel_rfl) @fun ⟨_, _, _, _, _, _, _, _, _, _, _, _, _, _, _, _, _, _, _, _, _, _, _, _, _, _, _, _, _, _, _, _, _, _, _, _, _, _, wpb, wfb⟩ i Bk2 hi hBk2 => ?_
            · (cbv; try simp only [wf, wfa, exD, exL, exT, exB, exA, leLs, leL_d, leL_undef, leL_nils, leA_nils, deq_refl, deq_int, deq_bool, deq_str, and_true, true_and, AObj.iter.injEq, nc, nc']; try simp (disch := omega) only [w64, w32, wu8])
              exact ⟨rfl, Nat.le_refl _, Nat.zero_le _, fun x j hx hj => .of_eq (by
                obtain rfl : j = 0 := by omega
                rfl)⟩
            (cbv; try simp only [wp, (show ∀ n : Nat, _ = n from fun n => wf.2.2.2.2.2.2.2.2.2.2.2.2.2.1 (Int.ofNat n)), (show _ = (0 : Nat) from wf.2.2.2.2.2.2.2.2.2.2.2.2.2.1 0), wpa, (show ∀ n : Nat, _ = n from fun n => wfa.2.2.2.2.2.2.2.2.2.2.2.2.2.1 (Int.ofNat n)), (show _ = (0 : Nat) from wfa.2.2.2.2.2.2.2.2.2.2.2.2.2.1 0), wpb, (show ∀ n : Nat, _ = n from fun n => wfb.2.2.2.2.2.2.2.2.2.2.2.2.2.1 (Int.ofNat n)), (show _ = (0 : Nat) from wfb.2.2.2.2.2.2.2.2.2.2.2.2.2.1 0), getL, takeL, dropL, TK.isAgg, reduceIte])
            refine ⟨fun e => ?_, fun e => ?_⟩
            · have e : i < u := (by (try simp only [wf, wfa, wfb, nc, nc', Int.toNat_natCast, bsz, ByteArray.size_append, List.length_cons, List.length_nil] at *); (try simp (disch := omega) only [w64, w32, wu8] at *); first | done | omega)
              obtain ⟨u0, u1⟩ := htl i e
              have hpb := pickbit p (by omega) i (by omega)
              have hps := pickN_succ U (wP p) i u0
              (refine Later.mk ?_; cbv; try simp only [wp, (show ∀ n : Nat, _ = n from fun n => wf.2.2.2.2.2.2.2.2.2.2.2.2.2.1 (Int.ofNat n)), (show _ = (0 : Nat) from wf.2.2.2.2.2.2.2.2.2.2.2.2.2.1 0), wpa, (show ∀ n : Nat, _ = n from fun n => wfa.2.2.2.2.2.2.2.2.2.2.2.2.2.1 (Int.ofNat n)), (show _ = (0 : Nat) from wfa.2.2.2.2.2.2.2.2.2.2.2.2.2.1 0), wpb, (show ∀ n : Nat, _ = n from fun n => wfb.2.2.2.2.2.2.2.2.2.2.2.2.2.1 (Int.ofNat n)), (show _ = (0 : Nat) from wfb.2.2.2.2.2.2.2.2.2.2.2.2.2.1 0), getL, takeL, dropL, TK.isAgg, reduceIte])
              repeat' first | with_reducible refine And.intro ?_ ?_ | intro c9
              all_goals first | exact (by (try simp only [wf, wfa, wfb, nc, nc', Int.toNat_natCast, bsz, ByteArray.size_append, List.length_cons, List.length_nil] at *); (try simp (disch := omega) only [w64, w32, wu8] at *); first | done | omega) | trivial | skip
              all_goals
                refine hBk2 (i + 1) _ (by omega) (by omega) ?_
                (cbv; try simp only [wf, wfa, wfb, exD, exL, exT, exB, exA, leLs, leL_d, leL_undef, leL_nils, leA_nils, deq_refl, deq_int, deq_bool, deq_str, and_true, true_and, AObj.iter.injEq, nc, nc']; try simp (disch := omega) only [w64, w32, wu8])
                refine ⟨rfl, Nat.le_refl _, Nat.zero_le _, fun x j hx hj => .of_eq ?_⟩
                obtain rfl : j = 0 := by omega
                rw [Int.toNat_natCast, hpb]
                show (if x = (U i).toNat ∧ 0 = 0 then D.int .i64 (wP p i) else D.int .i64 (pickN U (wP p) i x)) = D.int .i64 (pickN U (wP p) (i + 1) x)
                rw [hps x]
                by_cases ex : x = (U i).toNat
                · rw [if_pos ex, if_pos ⟨ex, rfl⟩]
                · rw [if_neg ex, if_neg fun h => ex h.1]
            · have e : i = u := (by (try simp only [wf, wfa, wfb, nc, nc', Int.toNat_natCast, bsz, ByteArray.size_append, List.length_cons, List.length_nil] at *); (try simp (disch := omega) only [w64, w32, wu8] at *); first | done | omega)
              subst i
              (refine Later.mk ?_; cbv; try simp only [wp, (show ∀ n : Nat, _ = n from fun n => wf.2.2.2.2.2.2.2.2.2.2.2.2.2.1 (Int.ofNat n)), (show _ = (0 : Nat) from wf.2.2.2.2.2.2.2.2.2.2.2.2.2.1 0), wpa, (show ∀ n : Nat, _ = n from fun n => wfa.2.2.2.2.2.2.2.2.2.2.2.2.2.1 (Int.ofNat n)), (show _ = (0 : Nat) from wfa.2.2.2.2.2.2.2.2.2.2.2.2.2.1 0), wpb, (show ∀ n : Nat, _ = n from fun n => wfb.2.2.2.2.2.2.2.2.2.2.2.2.2.1 (Int.ofNat n)), (show _ = (0 : Nat) from wfb.2.2.2.2.2.2.2.2.2.2.2.2.2.1 0), getL, takeL, dropL, TK.isAgg, reduceIte])
              (refine CallW.frz @fun ⟨_, _, _, _, _, _, _, _, _, _, _, _, _, _, _, _, _, _, _, _, _, _, _, _, _, _, _, _, _, _, _, _, _, _, _, _, _, _, wpz, wfz⟩ => ?_; cbv; try simp only [wpz, wp, (show ∀ n : Nat, _ = n from fun n => wfz.2.2.2.2.2.2.2.2.2.2.2.2.2.1 (Int.ofNat n)), getL, takeL, dropL, TK.isAgg, reduceIte])
              repeat' first | trivial | with_reducible refine And.intro ?_ ?_ | intro c9
              refine (Eval c n V P0 top (pickN U (wP p) u) (by omega) (by omega)).call ?_
              intro r hr
              obtain rfl := evalR_pick hr v hu.1 hsA ht (fun j => by have := wP_range p j; omega)
              rw [← heA p]
              (cbv; try simp only [wp, (show ∀ n : Nat, _ = n from fun n => wf.2.2.2.2.2.2.2.2.2.2.2.2.2.1 (Int.ofNat n)), (show _ = (0 : Nat) from wf.2.2.2.2.2.2.2.2.2.2.2.2.2.1 0), wpa, (show ∀ n : Nat, _ = n from fun n => wfa.2.2.2.2.2.2.2.2.2.2.2.2.2.1 (Int.ofNat n)), (show _ = (0 : Nat) from wfa.2.2.2.2.2.2.2.2.2.2.2.2.2.1 0), wpb, (show ∀ n : Nat, _ = n from fun n => wfb.2.2.2.2.2.2.2.2.2.2.2.2.2.1 (Int.ofNat n)), (show _ = (0 : Nat) from wfb.2.2.2.2.2.2.2.2.2.2.2.2.2.1 0), getL, takeL, dropL, TK.isAgg, reduceIte])
              (refine CallW.frz @fun ⟨_, _, _, _, _, _, _, _, _, _, _, _, _, _, _, _, _, _, _, _, _, _, _, _, _, _, _, _, _, _, _, _, _, _, _, _, _, _, wpz, wfz⟩ => ?_; cbv; try simp only [wpz, wp, (show ∀ n : Nat, _ = n from fun n => wfz.2.2.2.2.2.2.2.2.2.2.2.2.2.1 (Int.ofNat n)), getL, takeL, dropL, TK.isAgg, reduceIte])
              repeat' first | trivial | with_reducible refine And.intro ?_ ?_ | intro c9
              refine (Eval c' n' V' P' top (pickN U (wP p) u) (by omega) (by omega)).call ?_
              intro r hr'
              obtain rfl := evalR_pick hr' v' hu.1 hsB ht (fun j => by have := wP_range p j; omega)
              rw [← heB p]
              clear hr hr'
              cases al <;> (cbv; try simp only [wp, (show ∀ n : Nat, _ = n from fun n => wf.2.2.2.2.2.2.2.2.2.2.2.2.2.1 (Int.ofNat n)), (show _ = (0 : Nat) from wf.2.2.2.2.2.2.2.2.2.2.2.2.2.1 0), wpa, (show ∀ n : Nat, _ = n from fun n => wfa.2.2.2.2.2.2.2.2.2.2.2.2.2.1 (Int.ofNat n)), (show _ = (0 : Nat) from wfa.2.2.2.2.2.2.2.2.2.2.2.2.2.1 0), wpb, (show ∀ n : Nat, _ = n from fun n => wfb.2.2.2.2.2.2.2.2.2.2.2.2.2.1 (Int.ofNat n)), (show _ = (0 : Nat) from wfb.2.2.2.2.2.2.2.2.2.2.2.2.2.1 0), getL, takeL, dropL, TK.isAgg, reduceIte])
              all_goals repeat' first | trivial | with_reducible refine And.intro ?_ ?_ | intro c9
              all_goals (refine Later.mk ?_; cbv; try simp only [wp, (show ∀ n : Nat, _ = n from fun n => wf.2.2.2.2.2.2.2.2.2.2.2.2.2.1 (Int.ofNat n)), (show _ = (0 : Nat) from wf.2.2.2.2.2.2.2.2.2.2.2.2.2.1 0), wpa, (show ∀ n : Nat, _ = n from fun n => wfa.2.2.2.2.2.2.2.2.2.2.2.2.2.1 (Int.ofNat n)), (show _ = (0 : Nat) from wfa.2.2.2.2.2.2.2.2.2.2.2.2.2.1 0), wpb, (show ∀ n : Nat, _ = n from fun n => wfb.2.2.2.2.2.2.2.2.2.2.2.2.2.1 (Int.ofNat n)), (show _ = (0 : Nat) from wfb.2.2.2.2.2.2.2.2.2.2.2.2.2.1 0), getL, takeL, dropL, TK.isAgg, reduceIte])
              all_goals repeat' first | trivial | with_reducible refine And.intro ?_ ?_ | intro c9
              all_goals
                first
                | refine hBk (p + 1, true) _ (by dsimp only; omega) ⟨by dsimp only; omega, tellT i2 (by assumption)⟩ ?_
                | refine hBk (p + 1, false) _ (by dsimp only; omega) ⟨by dsimp only; omega, tellF2 (by assumption)⟩ ?_
                | refine hBk (p + 1, false) _ (by dsimp only; omega) ⟨by dsimp only; omega, tellF1 i2⟩ ?_
              all_goals
                (cbv; try simp only [wf, wfa, wfb, exD, exL, exT, exB, exA, leLs, leL_d, leL_undef, leL_nils, leA_nils, deq_refl, deq_int, deq_bool, deq_str, and_true, true_and, AObj.iter.injEq, nc, nc']; try simp (disch := omega) only [w64, w32, wu8])
                rfl
          · have e : p = tw := by ((try simp only [wf, wfa, nc, nc', Int.toNat_natCast, bsz, ByteArray.size_append, List.length_cons, List.length_nil] at *); (try simp (disch := omega) only [w64, w32, wu8] at *)); rw [shl1 u hu5, ← htw] at e; omega
            subst p
            have htl2 : al = true ↔ LeqP c n V P0 c' n' V' P' := i2.trans (by
              rw [htw]
              simp only [heA, heB]
              exact tells v v' hu5 hu.1.dist hsA hsB)
            clear i2 heA heB eA eB hBk
            (refine Later.mk ?_; cbv; try simp only [wp, (show ∀ n : Nat, _ = n from fun n => wf.2.2.2.2.2.2.2.2.2.2.2.2.2.1 (Int.ofNat n)), (show _ = (0 : Nat) from wf.2.2.2.2.2.2.2.2.2.2.2.2.2.1 0), wpa, (show ∀ n : Nat, _ = n from fun n => wfa.2.2.2.2.2.2.2.2.2.2.2.2.2.1 (Int.ofNat n)), (show _ = (0 : Nat) from wfa.2.2.2.2.2.2.2.2.2.2.2.2.2.1 0), getL, takeL, dropL, TK.isAgg, reduceIte])
            refine (Leq c c' n n' V P0 V' P' (by omega) (by omega)).call ?_
            rintro _ ⟨b, hb, rfl⟩
            obtain rfl : b = al := Bool.eq_iff_iff.2 ((hb.trans ⟨fun h => h.2.2, fun h => ⟨v, v', h⟩⟩).trans htl2.symm)
            clear hb
            cases b <;> (cbv; try simp only [wp, (show ∀ n : Nat, _ = n from fun n => wf.2.2.2.2.2.2.2.2.2.2.2.2.2.1 (Int.ofNat n)), (show _ = (0 : Nat) from wf.2.2.2.2.2.2.2.2.2.2.2.2.2.1 0), wpa, (show ∀ n : Nat, _ = n from fun n => wfa.2.2.2.2.2.2.2.2.2.2.2.2.2.1 (Int.ofNat n)), (show _ = (0 : Nat) from wfa.2.2.2.2.2.2.2.2.2.2.2.2.2.1 0), getL, takeL, dropL, TK.isAgg, reduceIte])
            all_goals repeat' first | trivial | with_reducible refine And.intro ?_ ?_ | intro c9
            all_goals (refine Later.mk ?_; cbv; try simp only [wp, (show ∀ n : Nat, _ = n from fun n => wf.2.2.2.2.2.2.2.2.2.2.2.2.2.1 (Int.ofNat n)), (show _ = (0 : Nat) from wf.2.2.2.2.2.2.2.2.2.2.2.2.2.1 0), wpa, (show ∀ n : Nat, _ = n from fun n => wfa.2.2.2.2.2.2.2.2.2.2.2.2.2.1 (Int.ofNat n)), (show _ = (0 : Nat) from wfa.2.2.2.2.2.2.2.2.2.2.2.2.2.1 0), getL, takeL, dropL, TK.isAgg, reduceIte])
            all_goals repeat' first | trivial | with_reducible refine And.intro ?_ ?_ | intro c9
            all_goals first | exact (by (try simp only [wf, wfa, nc, nc', Int.toNat_natCast, bsz, ByteArray.size_append, List.length_cons, List.length_nil] at *); (try simp (disch := omega) only [w64, w32, wu8] at *); first | done | omega) | skip
            · refine loopO (Tf := fun {_} _ => fzT [3, 4] (T ())) (fun {_} => tabOk.frz [3, 4]) [(17, upF 0 12), (29, upF 0 13)] 400 (fun i : Nat => ⟨[.undef, .undef, .d (.sl m 1 (nsF .u32 N)), .iptr (fun x j => getL [.int .i64 c, .sl n 2 (lvF V P0)] j .nilp) 0 0 2, .iptr (fun x j => getL [.int .i64 c', .sl n' 2 (lvF V' P')] j .nilp) 0 0 2, .undef, .d (.bool false), .d (.sl u 1 (nsF .i64 U)), .undef, .d (.bool false), .undef, .undef, .undef, .undef, .undef, .undef, .undef, .ref 0 0 top 1, .d (.int .i64 i), .undef, .undef, .undef, .undef, .undef, .undef, .undef, .undef, .undef, .undef, .undef, .undef, .undef, .undef, .undef, .undef, .undef, .undef, .undef, .undef, .undef, .undef, .undef, .undef, .undef, .undef, .undef, .undef, .undef, .undef, .undef, .undef, .undef, .undef, .undef, .undef, .undef, .undef, .undef, .undef, .undef, .undef, .undef, .undef, .undef, .undef, .undef, .undef, .undef, .undef, .undef, .undef, .undef, .undef, .undef, .undef, .undef, .undef, .undef, .undef, .undef, .undef, .undef, .undef, .undef, .undef, .undef, .undef, .undef, .undef, .undef, .undef, .undef, .undef, .undef, .undef, .undef, .undef, .undef, .undef, .undef, .undef, .undef, .undef, .undef, .undef, .undef, .undef, .undef, .undef, .undef, .undef, .undef, .undef, .undef, .undef, .undef, .undef, .undef, .undef, .undef, .undef, .undef, .undef, .undef, .undef, .undef, .undef, .undef, .undef, .undef, .undef, .undef, .undef, .undef, .undef, .undef, .undef, .undef, .undef, .undef, .undef, .undef, .undef, .undef, .undef, .undef, .undef, .undef, .undef, .undef, .undef, .undef, .undef, .undef, .undef, .undef, .undef, .undef, .undef, .undef, .undef, .undef, .undef, .undef, .undef, .undef, .undef, .undef, .undef], [.arr top 1 (nsF .i64 (pickN U (wQ m N) i)) 0]⟩) (fun i => u - i) (fun i => i ≤ u ∧ i ≤ m) 0 ⟨Nat.zero_le _, Nat.zero_le _⟩ (fun {_} => by kernel_rfl) ?_ (fun i => by kernel_rfl) @fun ⟨_, _, _, _, _, _, _, _, _, _, _, _, _, _, _, _, _, _, _, _, _, _, _, _, _, _, _, _, _, _, _, _, _, _, _, _, _, _, wpb, wfb⟩ i Bk2 hi hBk2 => ?_
              · (cbv; try simp only [wf, wfa, exD, exL, exT, exB, exA, leLs, leL_d, leL_undef, leL_nils, leA_nils, deq_refl, deq_int, deq_bool, deq_str, and_true, true_and, AObj.iter.injEq, nc, nc']; try simp (disch := omega) only [w64, w32, wu8])
                exact ⟨rfl, Nat.le_refl _, Nat.zero_le _, fun x j hx hj => .of_eq (by
                  obtain rfl : j = 0 := by omega
                  rfl)⟩
              obtain ⟨i1, i2⟩ := hi
              obtain ⟨X, hX⟩ : ∃ X, X = evV V P0 (pickF U (wQ m N) i) c n := ⟨_, rfl⟩
              obtain ⟨Y, hY⟩ : ∃ Y, Y = evV V' P' (pickF U (wQ m N) i) c' n' := ⟨_, rfl⟩
              have hXY : LeqP c n V P0 c' n' V' P' → X ≤ Y := fun h => by
                rw [hX, hY]
                exact leq_ev _ (fun z => pickF_ge (fun j => (wQ_range j).1) i z) v'.1 h
              (cbv; try simp only [wp, (show ∀ n : Nat, _ = n from fun n => wf.2.2.2.2.2.2.2.2.2.2.2.2.2.1 (Int.ofNat n)), (show _ = (0 : Nat) from wf.2.2.2.2.2.2.2.2.2.2.2.2.2.1 0), wpa, (show ∀ n : Nat, _ = n from fun n => wfa.2.2.2.2.2.2.2.2.2.2.2.2.2.1 (Int.ofNat n)), (show _ = (0 : Nat) from wfa.2.2.2.2.2.2.2.2.2.2.2.2.2.1 0), wpb, (show ∀ n : Nat, _ = n from fun n => wfb.2.2.2.2.2.2.2.2.2.2.2.2.2.1 (Int.ofNat n)), (show _ = (0 : Nat) from wfb.2.2.2.2.2.2.2.2.2.2.2.2.2.1 0), getL, takeL, dropL, TK.isAgg, reduceIte])
              refine ⟨fun e1 => ⟨fun e2 => ?_, fun e2 => ?_⟩, fun e1 => ?_⟩
              · have e1 : i < m := (by (try simp only [wf, wfa, wfb, nc, nc', Int.toNat_natCast, bsz, ByteArray.size_append, List.length_cons, List.length_nil] at *); (try simp (disch := omega) only [w64, w32, wu8] at *); first | done | omega)
                have e2 : i < u := (by (try simp only [wf, wfa, wfb, nc, nc', Int.toNat_natCast, bsz, ByteArray.size_append, List.length_cons, List.length_nil] at *); (try simp (disch := omega) only [w64, w32, wu8] at *); first | done | omega)
                obtain ⟨u0, u1⟩ := htl i e2
                have hNi := u32wf (hN i e1)
                have hq : IntKind.i64.wrap ((N i).tmod 2000000001) = wQ m N i := by
                  rw [Int.tmod_eq_emod_of_nonneg hNi.1, wQ, if_pos e1]
                  exact w64 (by omega) (by omega)
                have hps := pickN_succ U (wQ m N) i u0
                (refine Later.mk ?_; cbv; try simp only [wp, (show ∀ n : Nat, _ = n from fun n => wf.2.2.2.2.2.2.2.2.2.2.2.2.2.1 (Int.ofNat n)), (show _ = (0 : Nat) from wf.2.2.2.2.2.2.2.2.2.2.2.2.2.1 0), wpa, (show ∀ n : Nat, _ = n from fun n => wfa.2.2.2.2.2.2.2.2.2.2.2.2.2.1 (Int.ofNat n)), (show _ = (0 : Nat) from wfa.2.2.2.2.2.2.2.2.2.2.2.2.2.1 0), wpb, (show ∀ n : Nat, _ = n from fun n => wfb.2.2.2.2.2.2.2.2.2.2.2.2.2.1 (Int.ofNat n)), (show _ = (0 : Nat) from wfb.2.2.2.2.2.2.2.2.2.2.2.2.2.1 0), getL, takeL, dropL, TK.isAgg, reduceIte])
                repeat' first | with_reducible refine And.intro ?_ ?_ | intro c9
                all_goals first | exact (by (try simp only [wf, wfa, wfb, nc, nc', Int.toNat_natCast, bsz, ByteArray.size_append, List.length_cons, List.length_nil] at *); (try simp (disch := omega) only [w64, w32, wu8] at *); first | done | omega) | trivial | skip
                all_goals
                  refine hBk2 (i + 1) _ (by omega) ⟨by omega, by omega⟩ ?_
                  (cbv; try simp only [wf, wfa, wfb, exD, exL, exT, exB, exA, leLs, leL_d, leL_undef, leL_nils, leA_nils, deq_refl, deq_int, deq_bool, deq_str, and_true, true_and, AObj.iter.injEq, nc, nc']; try simp (disch := omega) only [w64, w32, wu8])
                  refine ⟨rfl, Nat.le_refl _, Nat.zero_le _, fun x j hx hj => .of_eq ?_⟩
                  obtain rfl : j = 0 := by omega
                  rw [hq]
                  show (if x = (U i).toNat ∧ 0 = 0 then D.int .i64 (wQ m N i) else D.int .i64 (pickN U (wQ m N) i x)) = D.int .i64 (pickN U (wQ m N) (i + 1) x)
                  rw [hps x]
                  by_cases ex : x = (U i).toNat
                  · rw [if_pos ex, if_pos ⟨ex, rfl⟩]
                  · rw [if_neg ex, if_neg fun h => ex h.1]
              all_goals
                (refine Later.mk ?_; cbv; try simp only [wp, (show ∀ n : Nat, _ = n from fun n => wf.2.2.2.2.2.2.2.2.2.2.2.2.2.1 (Int.ofNat n)), (show _ = (0 : Nat) from wf.2.2.2.2.2.2.2.2.2.2.2.2.2.1 0), wpa, (show ∀ n : Nat, _ = n from fun n => wfa.2.2.2.2.2.2.2.2.2.2.2.2.2.1 (Int.ofNat n)), (show _ = (0 : Nat) from wfa.2.2.2.2.2.2.2.2.2.2.2.2.2.1 0), wpb, (show ∀ n : Nat, _ = n from fun n => wfb.2.2.2.2.2.2.2.2.2.2.2.2.2.1 (Int.ofNat n)), (show _ = (0 : Nat) from wfb.2.2.2.2.2.2.2.2.2.2.2.2.2.1 0), getL, takeL, dropL, TK.isAgg, reduceIte])
                (refine CallW.frz @fun ⟨_, _, _, _, _, _, _, _, _, _, _, _, _, _, _, _, _, _, _, _, _, _, _, _, _, _, _, _, _, _, _, _, _, _, _, _, _, _, wpz, wfz⟩ => ?_; cbv; try simp only [wpz, wp, (show ∀ n : Nat, _ = n from fun n => wfz.2.2.2.2.2.2.2.2.2.2.2.2.2.1 (Int.ofNat n)), getL, takeL, dropL, TK.isAgg, reduceIte])
                repeat' first | trivial | with_reducible refine And.intro ?_ ?_ | intro c9
                refine (Eval c n V P0 top (pickN U (wQ m N) i) (by omega) (by omega)).call ?_
                intro r hr
                obtain rfl := evalR_pick hr v hu.1 hsA ht fun j => wQ_range j
                rw [← hX]
                (cbv; try simp only [wp, (show ∀ n : Nat, _ = n from fun n => wf.2.2.2.2.2.2.2.2.2.2.2.2.2.1 (Int.ofNat n)), (show _ = (0 : Nat) from wf.2.2.2.2.2.2.2.2.2.2.2.2.2.1 0), wpa, (show ∀ n : Nat, _ = n from fun n => wfa.2.2.2.2.2.2.2.2.2.2.2.2.2.1 (Int.ofNat n)), (show _ = (0 : Nat) from wfa.2.2.2.2.2.2.2.2.2.2.2.2.2.1 0), wpb, (show ∀ n : Nat, _ = n from fun n => wfb.2.2.2.2.2.2.2.2.2.2.2.2.2.1 (Int.ofNat n)), (show _ = (0 : Nat) from wfb.2.2.2.2.2.2.2.2.2.2.2.2.2.1 0), getL, takeL, dropL, TK.isAgg, reduceIte])
                (refine CallW.frz @fun ⟨_, _, _, _, _, _, _, _, _, _, _, _, _, _, _, _, _, _, _, _, _, _, _, _, _, _, _, _, _, _, _, _, _, _, _, _, _, _, wpz, wfz⟩ => ?_; cbv; try simp only [wpz, wp, (show ∀ n : Nat, _ = n from fun n => wfz.2.2.2.2.2.2.2.2.2.2.2.2.2.1 (Int.ofNat n)), getL, takeL, dropL, TK.isAgg, reduceIte])
                repeat' first | trivial | with_reducible refine And.intro ?_ ?_ | intro c9
                refine (Eval c' n' V' P' top (pickN U (wQ m N) i) (by omega) (by omega)).call ?_
                intro r hr'
                obtain rfl := evalR_pick hr' v' hu.1 hsB ht fun j => wQ_range j
                rw [← hY]
                clear hr hr' hX hY
                (cbv; try simp only [wp, (show ∀ n : Nat, _ = n from fun n => wf.2.2.2.2.2.2.2.2.2.2.2.2.2.1 (Int.ofNat n)), (show _ = (0 : Nat) from wf.2.2.2.2.2.2.2.2.2.2.2.2.2.1 0), wpa, (show ∀ n : Nat, _ = n from fun n => wfa.2.2.2.2.2.2.2.2.2.2.2.2.2.1 (Int.ofNat n)), (show _ = (0 : Nat) from wfa.2.2.2.2.2.2.2.2.2.2.2.2.2.1 0), wpb, (show ∀ n : Nat, _ = n from fun n => wfb.2.2.2.2.2.2.2.2.2.2.2.2.2.1 (Int.ofNat n)), (show _ = (0 : Nat) from wfb.2.2.2.2.2.2.2.2.2.2.2.2.2.1 0), getL, takeL, dropL, TK.isAgg, reduceIte])
                repeat' first | trivial | with_reducible refine And.intro ?_ ?_ | intro c9
                all_goals
                  first
                  | exact absurd (hXY (htl2.1 rfl)) (Int.not_le.2 (by assumption))
                  | (refine awake.call ?_
                     rintro _ rfl
                     (cbv; try simp only [wp, (show ∀ n : Nat, _ = n from fun n => wf.2.2.2.2.2.2.2.2.2.2.2.2.2.1 (Int.ofNat n)), (show _ = (0 : Nat) from wf.2.2.2.2.2.2.2.2.2.2.2.2.2.1 0), wpa, (show ∀ n : Nat, _ = n from fun n => wfa.2.2.2.2.2.2.2.2.2.2.2.2.2.1 (Int.ofNat n)), (show _ = (0 : Nat) from wfa.2.2.2.2.2.2.2.2.2.2.2.2.2.1 0), wpb, (show ∀ n : Nat, _ = n from fun n => wfb.2.2.2.2.2.2.2.2.2.2.2.2.2.1 (Int.ofNat n)), (show _ = (0 : Nat) from wfb.2.2.2.2.2.2.2.2.2.2.2.2.2.1 0), getL, takeL, dropL, TK.isAgg, reduceIte])
                     repeat' first | trivial | with_reducible refine And.intro ?_ ?_ | intro c9
                     all_goals exact hR _)
            · refine loopO (Tf := fun {_} _ => fzT [3, 4] (T ())) (fun {_} => tabOk.frz [3, 4]) [(17, upF 0 12), (29, upF 0 13)] 400 (fun i : Nat => ⟨[.undef, .undef, .d (.sl m 1 (nsF .u32 N)), .iptr (fun x j => getL [.int .i64 c, .sl n 2 (lvF V P0)] j .nilp) 0 0 2, .iptr (fun x j => getL [.int .i64 c', .sl n' 2 (lvF V' P')] j .nilp) 0 0 2, .undef, .d (.bool false), .d (.sl u 1 (nsF .i64 U)), .undef, .d (.bool true), .undef, .undef, .undef, .undef, .undef, .undef, .undef, .ref 0 0 top 1, .d (.int .i64 i), .undef, .undef, .undef, .undef, .undef, .undef, .undef, .undef, .undef, .undef, .undef, .undef, .undef, .undef, .undef, .undef, .undef, .undef, .undef, .undef, .undef, .undef, .undef, .undef, .undef, .undef, .undef, .undef, .undef, .undef, .undef, .undef, .undef, .undef, .undef, .undef, .undef, .undef, .undef, .undef, .undef, .undef, .undef, .undef, .undef, .undef, .undef, .undef, .undef, .undef, .undef, .undef, .undef, .undef, .undef, .undef, .undef, .undef, .undef, .undef, .undef, .undef, .undef, .undef, .undef, .undef, .undef, .undef, .undef, .undef, .undef, .undef, .undef, .undef, .undef, .undef, .undef, .undef, .undef, .undef, .undef, .undef, .undef, .undef, .undef, .undef, .undef, .undef, .undef, .undef, .undef, .undef, .undef, .undef, .undef, .undef, .undef, .undef, .undef, .undef, .undef, .undef, .undef, .undef, .undef, .undef, .undef, .undef, .undef, .undef, .undef, .undef, .undef, .undef, .undef, .undef, .undef, .undef, .undef, .undef, .undef, .undef, .undef, .undef, .undef, .undef, .undef, .undef, .undef, .undef, .undef, .undef, .undef, .undef, .undef, .undef, .undef, .undef, .undef, .undef, .undef, .undef, .undef, .undef, .undef, .undef, .undef, .undef, .undef, .undef], [.arr top 1 (nsF .i64 (pickN U (wQ m N) i)) 0]⟩) (fun i => u - i) (fun i => i ≤ u ∧ i ≤ m) 0 ⟨Nat.zero_le _, Nat.zero_le _⟩ (fun {_} => by kernel_rfl) ?_ (fun i => by kernel_rfl) @fun ⟨_, _, _, _, _, _, _, _, _, _, _, _, _, _, _, _, _, _, _, _, _, _, _, _, _, _, _, _, _, _, _, _, _, _, _, _, _, _, wpb, wfb⟩ i Bk2 hi hBk2 => ?_
              · (cbv; try simp only [wf, wfa, exD, exL, exT, exB, exA, leLs, leL_d, leL_undef, leL_nils, leA_nils, deq_refl, deq_int, deq_bool, deq_str, and_true, true_and, AObj.iter.injEq, nc, nc']; try simp (disch := omega) only [w64, w32, wu8])
                exact ⟨rfl, Nat.le_refl _, Nat.zero_le _, fun x j hx hj => .of_eq (by
                  obtain rfl : j = 0 := by omega
                  rfl)⟩
              obtain ⟨i1, i2⟩ := hi
              obtain ⟨X, hX⟩ : ∃ X, X = evV V P0 (pickF U (wQ m N) i) c n := ⟨_, rfl⟩
              obtain ⟨Y, hY⟩ : ∃ Y, Y = evV V' P' (pickF U (wQ m N) i) c' n' := ⟨_, rfl⟩
              have hXY : LeqP c n V P0 c' n' V' P' → X ≤ Y := fun h => by
                rw [hX, hY]
                exact leq_ev _ (fun z => pickF_ge (fun j => (wQ_range j).1) i z) v'.1 h
              (cbv; try simp only [wp, (show ∀ n : Nat, _ = n from fun n => wf.2.2.2.2.2.2.2.2.2.2.2.2.2.1 (Int.ofNat n)), (show _ = (0 : Nat) from wf.2.2.2.2.2.2.2.2.2.2.2.2.2.1 0), wpa, (show ∀ n : Nat, _ = n from fun n => wfa.2.2.2.2.2.2.2.2.2.2.2.2.2.1 (Int.ofNat n)), (show _ = (0 : Nat) from wfa.2.2.2.2.2.2.2.2.2.2.2.2.2.1 0), wpb, (show ∀ n : Nat, _ = n from fun n => wfb.2.2.2.2.2.2.2.2.2.2.2.2.2.1 (Int.ofNat n)), (show _ = (0 : Nat) from wfb.2.2.2.2.2.2.2.2.2.2.2.2.2.1 0), getL, takeL, dropL, TK.isAgg, reduceIte])
              refine ⟨fun e1 => ⟨fun e2 => ?_, fun e2 => ?_⟩, fun e1 => ?_⟩
              · have e1 : i < m := (by (try simp only [wf, wfa, wfb, nc, nc', Int.toNat_natCast, bsz, ByteArray.size_append, List.length_cons, List.length_nil] at *); (try simp (disch := omega) only [w64, w32, wu8] at *); first | done | omega)
                have e2 : i < u := (by (try simp only [wf, wfa, wfb, nc, nc', Int.toNat_natCast, bsz, ByteArray.size_append, List.length_cons, List.length_nil] at *); (try simp (disch := omega) only [w64, w32, wu8] at *); first | done | omega)
                obtain ⟨u0, u1⟩ := htl i e2
                have hNi := u32wf (hN i e1)
                have hq : IntKind.i64.wrap ((N i).tmod 2000000001) = wQ m N i := by
                  rw [Int.tmod_eq_emod_of_nonneg hNi.1, wQ, if_pos e1]
                  exact w64 (by omega) (by omega)
                have hps := pickN_succ U (wQ m N) i u0
                (refine Later.mk ?_; cbv; try simp only [wp, (show ∀ n : Nat, _ = n from fun n => wf.2.2.2.2.2.2.2.2.2.2.2.2.2.1 (Int.ofNat n)), (show _ = (0 : Nat) from wf.2.2.2.2.2.2.2.2.2.2.2.2.2.1 0), wpa, (show ∀ n : Nat, _ = n from fun n => wfa.2.2.2.2.2.2.2.2.2.2.2.2.2.1 (Int.ofNat n)), (show _ = (0 : Nat) from wfa.2.2.2.2.2.2.2.2.2.2.2.2.2.1 0), wpb, (show ∀ n : Nat, _ = n from fun n => wfb.2.2.2.2.2.2.2.2.2.2.2.2.2.1 (Int.ofNat n)), (show _ = (0 : Nat) from wfb.2.2.2.2.2.2.2.2.2.2.2.2.2.1 0), getL, takeL, dropL, TK.isAgg, reduceIte])
                repeat' first | with_reducible refine And.intro ?_ ?_ | intro c9
                all_goals first | exact (by (try simp only [wf, wfa, wfb, nc, nc', Int.toNat_natCast, bsz, ByteArray.size_append, List.length_cons, List.length_nil] at *); (try simp (disch := omega) only [w64, w32, wu8] at *); first | done | omega) | trivial | skip
                all_goals
                  refine hBk2 (i + 1) _ (by omega) ⟨by omega, by omega⟩ ?_
                  (cbv; try simp only [wf, wfa, wfb, exD, exL, exT, exB, exA, leLs, leL_d, leL_undef, leL_nils, leA_nils, deq_refl, deq_int, deq_bool, deq_str, and_true, true_and, AObj.iter.injEq, nc, nc']; try simp (disch := omega) only [w64, w32, wu8])
                  refine ⟨rfl, Nat.le_refl _, Nat.zero_le _, fun x j hx hj => .of_eq ?_⟩
                  obtain rfl : j = 0 := by omega
                  rw [hq]
                  show (if x = (U i).toNat ∧ 0 = 0 then D.int .i64 (wQ m N i) else D.int .i64 (pickN U (wQ m N) i x)) = D.int .i64 (pickN U (wQ m N) (i + 1) x)
                  rw [hps x]
                  by_cases ex : x = (U i).toNat
                  · rw [if_pos ex, if_pos ⟨ex, rfl⟩]
                  · rw [if_neg ex, if_neg fun h => ex h.1]
              all_goals
                (refine Later.mk ?_; cbv; try simp only [wp, (show ∀ n : Nat, _ = n from fun n => wf.2.2.2.2.2.2.2.2.2.2.2.2.2.1 (Int.ofNat n)), (show _ = (0 : Nat) from wf.2.2.2.2.2.2.2.2.2.2.2.2.2.1 0), wpa, (show ∀ n : Nat, _ = n from fun n => wfa.2.2.2.2.2.2.2.2.2.2.2.2.2.1 (Int.ofNat n)), (show _ = (0 : Nat) from wfa.2.2.2.2.2.2.2.2.2.2.2.2.2.1 0), wpb, (show ∀ n : Nat, _ = n from fun n => wfb.2.2.2.2.2.2.2.2.2.2.2.2.2.1 (Int.ofNat n)), (show _ = (0 : Nat) from wfb.2.2.2.2.2.2.2.2.2.2.2.2.2.1 0), getL, takeL, dropL, TK.isAgg, reduceIte])
                (refine CallW.frz @fun ⟨_, _, _, _, _, _, _, _, _, _, _, _, _, _, _, _, _, _, _, _, _, _, _, _, _, _, _, _, _, _, _, _, _, _, _, _, _, _, wpz, wfz⟩ => ?_; cbv; try simp only [wpz, wp, (show ∀ n : Nat, _ = n from fun n => wfz.2.2.2.2.2.2.2.2.2.2.2.2.2.1 (Int.ofNat n)), getL, takeL, dropL, TK.isAgg, reduceIte])
                repeat' first | trivial | with_reducible refine And.intro ?_ ?_ | intro c9
                refine (Eval c n V P0 top (pickN U (wQ m N) i) (by omega) (by omega)).call ?_
                intro r hr
                obtain rfl := evalR_pick hr v hu.1 hsA ht fun j => wQ_range j
                rw [← hX]
                (cbv; try simp only [wp, (show ∀ n : Nat, _ = n from fun n => wf.2.2.2.2.2.2.2.2.2.2.2.2.2.1 (Int.ofNat n)), (show _ = (0 : Nat) from wf.2.2.2.2.2.2.2.2.2.2.2.2.2.1 0), wpa, (show ∀ n : Nat, _ = n from fun n => wfa.2.2.2.2.2.2.2.2.2.2.2.2.2.1 (Int.ofNat n)), (show _ = (0 : Nat) from wfa.2.2.2.2.2.2.2.2.2.2.2.2.2.1 0), wpb, (show ∀ n : Nat, _ = n from fun n => wfb.2.2.2.2.2.2.2.2.2.2.2.2.2.1 (Int.ofNat n)), (show _ = (0 : Nat) from wfb.2.2.2.2.2.2.2.2.2.2.2.2.2.1 0), getL, takeL, dropL, TK.isAgg, reduceIte])
                (refine CallW.frz @fun ⟨_, _, _, _, _, _, _, _, _, _, _, _, _, _, _, _, _, _, _, _, _, _, _, _, _, _, _, _, _, _, _, _, _, _, _, _, _, _, wpz, wfz⟩ => ?_; cbv; try simp only [wpz, wp, (show ∀ n : Nat, _ = n from fun n => wfz.2.2.2.2.2.2.2.2.2.2.2.2.2.1 (Int.ofNat n)), getL, takeL, dropL, TK.isAgg, reduceIte])
                repeat' first | trivial | with_reducible refine And.intro ?_ ?_ | intro c9
                refine (Eval c' n' V' P' top (pickN U (wQ m N) i) (by omega) (by omega)).call ?_
                intro r hr'
                obtain rfl := evalR_pick hr' v' hu.1 hsB ht fun j => wQ_range j
                rw [← hY]
                clear hr hr' hX hY
                (cbv; try simp only [wp, (show ∀ n : Nat, _ = n from fun n => wf.2.2.2.2.2.2.2.2.2.2.2.2.2.1 (Int.ofNat n)), (show _ = (0 : Nat) from wf.2.2.2.2.2.2.2.2.2.2.2.2.2.1 0), wpa, (show ∀ n : Nat, _ = n from fun n => wfa.2.2.2.2.2.2.2.2.2.2.2.2.2.1 (Int.ofNat n)), (show _ = (0 : Nat) from wfa.2.2.2.2.2.2.2.2.2.2.2.2.2.1 0), wpb, (show ∀ n : Nat, _ = n from fun n => wfb.2.2.2.2.2.2.2.2.2.2.2.2.2.1 (Int.ofNat n)), (show _ = (0 : Nat) from wfb.2.2.2.2.2.2.2.2.2.2.2.2.2.1 0), getL, takeL, dropL, TK.isAgg, reduceIte])
                repeat' first | trivial | with_reducible refine And.intro ?_ ?_ | intro c9
                all_goals
                  first
                  | exact absurd (hXY (htl2.1 rfl)) (Int.not_le.2 (by assumption))
                  | (refine awake.call ?_
                     rintro _ rfl
                     (cbv; try simp only [wp, (show ∀ n : Nat, _ = n from fun n => wf.2.2.2.2.2.2.2.2.2.2.2.2.2.1 (Int.ofNat n)), (show _ = (0 : Nat) from wf.2.2.2.2.2.2.2.2.2.2.2.2.2.1 0), wpa, (show ∀ n : Nat, _ = n from fun n => wfa.2.2.2.2.2.2.2.2.2.2.2.2.2.1 (Int.ofNat n)), (show _ = (0 : Nat) from wfa.2.2.2.2.2.2.2.2.2.2.2.2.2.1 0), wpb, (show ∀ n : Nat, _ = n from fun n => wfb.2.2.2.2.2.2.2.2.2.2.2.2.2.1 (Int.ofNat n)), (show _ = (0 : Nat) from wfb.2.2.2.2.2.2.2.2.2.2.2.2.2.1 0), getL, takeL, dropL, TK.isAgg, reduceIte])
                     repeat' first | trivial | with_reducible refine And.intro ?_ ?_ | intro c9
                     all_goals exact hR _)
    · (refine Later.mk ?_; cbv; try simp only [wp, (show ∀ n : Nat, _ = n from fun n => wf.2.2.2.2.2.2.2.2.2.2.2.2.2.1 (Int.ofNat n)), (show _ = (0 : Nat) from wf.2.2.2.2.2.2.2.2.2.2.2.2.2.1 0), getL, takeL, dropL, TK.isAgg, reduceIte])
      exact hR _
  · (refine Later.mk ?_; cbv; try simp only [wp, (show ∀ n : Nat, _ = n from fun n => wf.2.2.2.2.2.2.2.2.2.2.2.2.2.1 (Int.ofNat n)), (show _ = (0 : Nat) from wf.2.2.2.2.2.2.2.2.2.2.2.2.2.1 0), getL, takeL, dropL, TK.isAgg, reduceIte])
    repeat' first | trivial | with_reducible refine And.intro ?_ ?_ | intro c9
    all_goals exact hR _
end Go.VM
