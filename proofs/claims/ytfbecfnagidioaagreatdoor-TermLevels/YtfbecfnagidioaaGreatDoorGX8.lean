/- Part of the proof: LV5, LV6, LB2, LB3, LB4, LB5, LB6, LB7. -/
import Derived.Test.YtfbecfnagidioaaGreatDoorGX7
import Derived.Test.YtfbecfnagidioaaGreatDoorGV5
namespace Go.VM
open Go.Proofs Go
set_option maxRecDepth 100000
set_option linter.unusedVariables false
set_option linter.unusedSimpArgs false
theorem wu64 {x : Int} (h1 : 0 ≤ x) (h2 : x ≤ 18446744073709551615) : IntKind.u64.wrap x = x := by
  simp only [IntKind.wrap, IntKind.bits, IntKind.signed]
  simp
  omega
theorem pdq8 (n : Nat) (z : Int) (V P0 : Nat → Int) (hn : n ≤ 8) : VCalls (P ()) 172 [.ref 0 0 n 2, .d (.int .i64 0), .d (.int .i64 n), .d (.int .i64 z), .clo 134 [] []] [.arr n 2 (lvF V P0) 0]
    (fun r H => r = .tup [] ∧ ∃ V' P', (lst V' P' n).Perm (lst V P0 n) ∧ upTo V' n ∧ H = [.arr n 2 (lvF V' P') 0]) := by
  refine VCalls_of_Wo (Tf := @T) @tabOk [(17, upF 0 17)] 400 Tryz.func172 rfl (fun {_} => by kernel_rfl) (Nat.le_of_ble_eq_true rfl) @fun ⟨_, _, _, _, _, _, _, _, _, _, _, _, _, _, _, _, _, _, _, _, _, _, _, _, _, _, _, _, _, _, _, _, _, _, _, _, _, _, wp, wf⟩ nH R hnH hR => ?_
  subst hnH
  cbv
  try simp only [wp, (show ∀ n : Nat, _ = n from fun n => wf.2.2.2.2.2.2.2.2.2.2.2.2.2.1 (Int.ofNat n)), getL, takeL, dropL, TK.isAgg, reduceIte]
  refine loopO (Tf := @T) @tabOk [(17, upF 0 17)] 400 (fun y : Unit => ⟨[.ref 0 0 n 2, .d (.int .i64 0), .d (.int .i64 n), .d (.int .i64 z), .clo 134 [] [], .undef, .undef, .undef, .undef, .undef, .d (.bool true), .d (.bool true), .undef, .undef, .undef, .undef, .undef, .undef, .undef, .undef, .undef, .undef, .undef, .undef, .undef, .undef, .undef, .undef, .undef, .undef, .undef, .undef, .undef, .undef, .undef, .undef, .undef, .undef, .undef, .undef, .undef, .undef, .undef, .undef, .undef, .undef, .undef, .undef, .undef, .undef, .undef, .undef, .undef, .undef, .undef, .undef, .undef, .undef, .undef, .undef, .undef, .undef, .undef, .undef, .undef, .undef, .undef, .undef, .undef, .undef, .undef, .undef, .undef, .undef, .undef, .undef, .undef, .undef, .undef, .undef, .undef, .undef, .undef, .undef, .undef, .undef, .undef, .undef, .undef, .undef, .undef, .undef, .undef, .undef, .undef, .undef, .undef, .undef, .undef, .undef, .undef, .undef, .undef, .undef, .undef, .undef, .undef, .undef, .undef, .undef, .undef, .undef, .undef, .undef, .undef, .undef, .undef, .undef, .undef, .undef, .undef, .undef, .undef, .undef, .undef, .undef, .undef, .undef, .undef, .undef, .undef, .undef, .undef, .undef, .undef, .undef, .undef, .undef, .undef, .undef, .undef, .undef, .undef, .undef, .undef, .undef, .undef, .undef], [.arr n 2 (lvF V P0) 0]⟩) (fun y => 0) (fun y => True) () trivial (fun {_} => by kernel_rfl) ?_ (fun i => by kernel_rfl) @fun ⟨_, _, _, _, _, _, _, _, _, _, _, _, _, _, _, _, _, _, _, _, _, _, _, _, _, _, _, _, _, _, _, _, _, _, _, _, _, _, wpa, wfa⟩ _ Bk hi hBk => ?_
  · ((cbv; try simp only [wf, exD, exL, exT, exB, exA, leLs, leL_d, leL_undef, leL_nils, leA_nils, deq_refl, deq_int, deq_bool, deq_str, and_true, true_and, AObj.iter.injEq, nc, nc']; try simp (disch := omega) only [w64, w32, wu8]); first | done | rfl | omega | (simp; done) | (simp; omega) | skip)
  (cbv; try simp only [wp, (show ∀ n : Nat, _ = n from fun n => wf.2.2.2.2.2.2.2.2.2.2.2.2.2.1 (Int.ofNat n)), (show _ = (0 : Nat) from wf.2.2.2.2.2.2.2.2.2.2.2.2.2.1 0), wpa, (show ∀ n : Nat, _ = n from fun n => wfa.2.2.2.2.2.2.2.2.2.2.2.2.2.1 (Int.ofNat n)), (show _ = (0 : Nat) from wfa.2.2.2.2.2.2.2.2.2.2.2.2.2.1 0), getL, takeL, dropL, TK.isAgg, reduceIte])
  refine ⟨fun e => ?_, fun e => ?_⟩
  · (refine Later.mk ?_; cbv; try simp only [wp, (show ∀ n : Nat, _ = n from fun n => wf.2.2.2.2.2.2.2.2.2.2.2.2.2.1 (Int.ofNat n)), (show _ = (0 : Nat) from wf.2.2.2.2.2.2.2.2.2.2.2.2.2.1 0), wpa, (show ∀ n : Nat, _ = n from fun n => wfa.2.2.2.2.2.2.2.2.2.2.2.2.2.1 (Int.ofNat n)), (show _ = (0 : Nat) from wfa.2.2.2.2.2.2.2.2.2.2.2.2.2.1 0), getL, takeL, dropL, TK.isAgg, reduceIte])
    refine CallW.within (insSort n V P0 hn) [0] (by ((try simp only [wf, nc, nc', Int.toNat_natCast, bsz, ByteArray.size_append, List.length_cons, List.length_nil] at *); (try simp (disch := omega) only [w64, w32, wu8] at *)); rfl) ⟨rfl, trivial⟩ rfl ?_
    rintro _ _ ⟨rfl, V', P', h1, h2, rfl⟩
    refine ⟨[.arr n 2 (lvF V' P') 0], [], rfl, Nat.le_refl _, ⟨Nat.zero_le _, trivial⟩, rfl, ?_⟩
    (cbv; try simp only [wp, (show ∀ n : Nat, _ = n from fun n => wf.2.2.2.2.2.2.2.2.2.2.2.2.2.1 (Int.ofNat n)), (show _ = (0 : Nat) from wf.2.2.2.2.2.2.2.2.2.2.2.2.2.1 0), wpa, (show ∀ n : Nat, _ = n from fun n => wfa.2.2.2.2.2.2.2.2.2.2.2.2.2.1 (Int.ofNat n)), (show _ = (0 : Nat) from wfa.2.2.2.2.2.2.2.2.2.2.2.2.2.1 0), getL, takeL, dropL, TK.isAgg, reduceIte])
    exact hR _ _ ⟨rfl, V', P', h1, h2, rfl⟩
  · exact absurd e (by (try simp only [wf, wfa, nc, nc', Int.toNat_natCast, bsz, ByteArray.size_append, List.length_cons, List.length_nil] at *); (try simp (disch := omega) only [w64, w32, wu8] at *); first | done | omega)
theorem bLen64 (x : Int) (h : 0 ≤ x) (h2 : x < 256) : VFun (P ()) 148 [.d (.int .u64 x)] (fun r => ∃ z : Int, r = .d (.int .i64 z)) := by
  refine vfunO (Tf := @T) @tabOk [] 400 Tryz.func148 rfl (fun {_} => by kernel_rfl) rfl (Nat.le_of_ble_eq_true rfl) @fun ⟨_, _, _, _, _, _, _, _, _, _, _, _, _, _, _, _, _, _, _, _, _, _, _, _, _, _, _, _, _, _, _, _, _, _, _, _, _, _, wp, wf⟩ R hR => ?_
  cbv
  try simp only [wp, (show ∀ n : Nat, _ = n from fun n => wf.2.2.2.2.2.2.2.2.2.2.2.2.2.1 (Int.ofNat n)), getL, takeL, dropL, TK.isAgg, reduceIte]
  replace hR := fun z H => hR (.d (.int .i64 z)) H _ (.d (.int .i64 z)) ⟨z, rfl⟩
  repeat' first | with_reducible refine And.intro ?_ ?_ | intro c9
  · exact absurd c9 (by omega)
  · (refine Later.mk ?_; cbv; try simp only [wp, (show ∀ n : Nat, _ = n from fun n => wf.2.2.2.2.2.2.2.2.2.2.2.2.2.1 (Int.ofNat n)), (show _ = (0 : Nat) from wf.2.2.2.2.2.2.2.2.2.2.2.2.2.1 0), getL, takeL, dropL, TK.isAgg, reduceIte])
    repeat' first | with_reducible refine And.intro ?_ ?_ | intro c9
    · exact absurd c9 (by omega)
    · (refine Later.mk ?_; cbv; try simp only [wp, (show ∀ n : Nat, _ = n from fun n => wf.2.2.2.2.2.2.2.2.2.2.2.2.2.1 (Int.ofNat n)), (show _ = (0 : Nat) from wf.2.2.2.2.2.2.2.2.2.2.2.2.2.1 0), getL, takeL, dropL, TK.isAgg, reduceIte])
      repeat' first | with_reducible refine And.intro ?_ ?_ | intro c9
      · exact absurd c9 (by omega)
      · (refine Later.mk ?_; cbv; try simp only [wp, (show ∀ n : Nat, _ = n from fun n => wf.2.2.2.2.2.2.2.2.2.2.2.2.2.1 (Int.ofNat n)), (show _ = (0 : Nat) from wf.2.2.2.2.2.2.2.2.2.2.2.2.2.1 0), getL, takeL, dropL, TK.isAgg, reduceIte])
        refine ⟨(by (try simp only [wf, nc, nc', Int.toNat_natCast, bsz, ByteArray.size_append, List.length_cons, List.length_nil] at *); (try simp (disch := omega) only [w64, w32, wu8] at *); first | done | omega), ?_, hR _ _⟩
        ((try simp only [wf, nc, nc', Int.toNat_natCast, bsz, ByteArray.size_append, List.length_cons, List.length_nil] at *); (try simp (disch := omega) only [w64, w32, wu8] at *))
        exact Int.lt_of_lt_of_le h2 (by decide)
theorem bLen (x : Int) (h : 0 ≤ x) (h2 : x < 256) : VFun (P ()) 96 [.d (.int .u64 x)] (fun r => ∃ z : Int, r = .d (.int .i64 z)) := by
  refine vfunO (Tf := @T) @tabOk [] 400 Tryz.func96 rfl (fun {_} => by kernel_rfl) rfl (Nat.le_of_ble_eq_true rfl) @fun ⟨_, _, _, _, _, _, _, _, _, _, _, _, _, _, _, _, _, _, _, _, _, _, _, _, _, _, _, _, _, _, _, _, _, _, _, _, _, _, wp, wf⟩ R hR => ?_
  cbv
  try simp only [wp, (show ∀ n : Nat, _ = n from fun n => wf.2.2.2.2.2.2.2.2.2.2.2.2.2.1 (Int.ofNat n)), getL, takeL, dropL, TK.isAgg, reduceIte]
  replace hR := fun z H => hR (.d (.int .i64 z)) H _ (.d (.int .i64 z)) ⟨z, rfl⟩
  (refine Later.mk ?_; cbv; try simp only [wp, (show ∀ n : Nat, _ = n from fun n => wf.2.2.2.2.2.2.2.2.2.2.2.2.2.1 (Int.ofNat n)), (show _ = (0 : Nat) from wf.2.2.2.2.2.2.2.2.2.2.2.2.2.1 0), getL, takeL, dropL, TK.isAgg, reduceIte])
  refine (bLen64 _ (by ((try simp only [wf, nc, nc', Int.toNat_natCast, bsz, ByteArray.size_append, List.length_cons, List.length_nil] at *); (try simp (disch := omega) only [w64, w32, wu8] at *)); omega) (by ((try simp only [wf, nc, nc', Int.toNat_natCast, bsz, ByteArray.size_append, List.length_cons, List.length_nil] at *); (try simp (disch := omega) only [w64, w32, wu8] at *)); omega)).call ?_
  rintro _ ⟨z, rfl⟩
  (cbv; try simp only [wp, (show ∀ n : Nat, _ = n from fun n => wf.2.2.2.2.2.2.2.2.2.2.2.2.2.1 (Int.ofNat n)), (show _ = (0 : Nat) from wf.2.2.2.2.2.2.2.2.2.2.2.2.2.1 0), getL, takeL, dropL, TK.isAgg, reduceIte])
  exact hR _ _
theorem SortF (n : Nat) (V P0 : Nat → Int) (hn : n ≤ 8) : VCalls (P ()) 133 [.ref 0 0 n 2, .clo 134 [] []] [.arr n 2 (lvF V P0) 0]
    (fun r H => r = .tup [] ∧ ∃ V' P', (lst V' P' n).Perm (lst V P0 n) ∧ upTo V' n ∧ H = [.arr n 2 (lvF V' P') 0]) := by
  refine VCalls_of_Wo (Tf := @T) @tabOk [] 400 Tryz.func133 rfl (fun {_} => by kernel_rfl) (Nat.le_of_ble_eq_true rfl) @fun ⟨_, _, _, _, _, _, _, _, _, _, _, _, _, _, _, _, _, _, _, _, _, _, _, _, _, _, _, _, _, _, _, _, _, _, _, _, _, _, wp, wf⟩ nH R hnH hR => ?_
  subst hnH
  cbv
  try simp only [wp, (show ∀ n : Nat, _ = n from fun n => wf.2.2.2.2.2.2.2.2.2.2.2.2.2.1 (Int.ofNat n)), getL, takeL, dropL, TK.isAgg, reduceIte]
  refine (bLen _ ?_ ?_).call ?_
  · ((try simp only [wf, nc, nc', Int.toNat_natCast, bsz, ByteArray.size_append, List.length_cons, List.length_nil] at *); (try simp (disch := omega) only [w64, w32, wu8] at *))
    rw [wu64 (by omega) (by omega)]; omega
  · ((try simp only [wf, nc, nc', Int.toNat_natCast, bsz, ByteArray.size_append, List.length_cons, List.length_nil] at *); (try simp (disch := omega) only [w64, w32, wu8] at *))
    rw [wu64 (by omega) (by omega)]; omega
  rintro _ ⟨z, rfl⟩
  (cbv; try simp only [wp, (show ∀ n : Nat, _ = n from fun n => wf.2.2.2.2.2.2.2.2.2.2.2.2.2.1 (Int.ofNat n)), (show _ = (0 : Nat) from wf.2.2.2.2.2.2.2.2.2.2.2.2.2.1 0), getL, takeL, dropL, TK.isAgg, reduceIte])
  refine CallW.within (pdq8 n _ V P0 hn) [0] (by ((try simp only [wf, nc, nc', Int.toNat_natCast, bsz, ByteArray.size_append, List.length_cons, List.length_nil] at *); (try simp (disch := omega) only [w64, w32, wu8] at *)); rfl) ⟨rfl, trivial⟩ rfl ?_
  rintro _ _ ⟨rfl, V', P', h1, h2, rfl⟩
  refine ⟨[.arr n 2 (lvF V' P') 0], [], rfl, Nat.le_refl _, ⟨Nat.zero_le _, trivial⟩, rfl, ?_⟩
  (cbv; try simp only [wp, (show ∀ n : Nat, _ = n from fun n => wf.2.2.2.2.2.2.2.2.2.2.2.2.2.1 (Int.ofNat n)), (show _ = (0 : Nat) from wf.2.2.2.2.2.2.2.2.2.2.2.2.2.1 0), getL, takeL, dropL, TK.isAgg, reduceIte])
  exact hR _ _ ⟨rfl, V', P', h1, h2, rfl⟩
end Go.VM

namespace Go.VM
open Go.Proofs Go
set_option maxRecDepth 100000
set_option linter.unusedVariables false
set_option linter.unusedSimpArgs false
theorem insSort0 : VCalls (P ()) 193 [.nils, .d (.int .i64 0), .d (.int .i64 0), .clo 134 [] []] [] (fun r H => r = .tup [] ∧ H = []) := by
  refine VCalls_of_Wo (Tf := @T) @tabOk [(4, upF 0 17), (6, upF 0 18)] 400 Tryz.func193 rfl (fun {_} => by kernel_rfl) (Nat.le_of_ble_eq_true rfl) @fun ⟨_, _, _, _, _, _, _, _, _, _, _, _, _, _, _, _, _, _, _, _, _, _, _, _, _, _, _, _, _, _, _, _, _, _, _, _, _, _, wp, wf⟩ nH R hnH hR => ?_
  subst hnH
  cbv
  try simp only [wp, (show ∀ n : Nat, _ = n from fun n => wf.2.2.2.2.2.2.2.2.2.2.2.2.2.1 (Int.ofNat n)), getL, takeL, dropL, TK.isAgg, reduceIte]
  refine loopO (Tf := @T) @tabOk [(4, upF 0 17), (6, upF 0 18)] 400 (fun y : Unit => ⟨[.nils, .d (.int .i64 0), .d (.int .i64 0), .clo 134 [] [], .undef, .undef, .undef, .undef, .d (.int .i64 1), .undef, .undef, .undef, .undef, .undef, .undef, .undef, .undef, .undef, .undef, .undef, .undef, .undef, .undef, .undef, .undef, .undef, .undef, .undef, .undef, .undef, .undef, .undef, .undef, .undef, .undef, .undef, .undef, .undef, .undef, .undef, .undef, .undef, .undef, .undef, .undef, .undef, .undef, .undef, .undef, .undef, .undef, .undef, .undef], []⟩) (fun y => 0) (fun y => True) () trivial (fun {_} => by kernel_rfl) ?_ (fun i => by kernel_rfl) @fun ⟨_, _, _, _, _, _, _, _, _, _, _, _, _, _, _, _, _, _, _, _, _, _, _, _, _, _, _, _, _, _, _, _, _, _, _, _, _, _, wpa, wfa⟩ _ Bk hi hBk => ?_
  · ((cbv; try simp only [wf, exD, exL, exT, exB, exA, leLs, leL_d, leL_undef, leL_nils, leA_nils, deq_refl, deq_int, deq_bool, deq_str, and_true, true_and, AObj.iter.injEq, nc, nc']; try simp (disch := omega) only [w64, w32, wu8]); first | done | rfl | omega | (simp; done) | (simp; omega) | skip)
  (cbv; try simp only [wp, (show ∀ n : Nat, _ = n from fun n => wf.2.2.2.2.2.2.2.2.2.2.2.2.2.1 (Int.ofNat n)), (show _ = (0 : Nat) from wf.2.2.2.2.2.2.2.2.2.2.2.2.2.1 0), wpa, (show ∀ n : Nat, _ = n from fun n => wfa.2.2.2.2.2.2.2.2.2.2.2.2.2.1 (Int.ofNat n)), (show _ = (0 : Nat) from wfa.2.2.2.2.2.2.2.2.2.2.2.2.2.1 0), getL, takeL, dropL, TK.isAgg, reduceIte])
  refine ⟨fun e => absurd e (by omega), fun e => ?_⟩
  (refine Later.mk ?_; cbv; try simp only [wp, (show ∀ n : Nat, _ = n from fun n => wf.2.2.2.2.2.2.2.2.2.2.2.2.2.1 (Int.ofNat n)), (show _ = (0 : Nat) from wf.2.2.2.2.2.2.2.2.2.2.2.2.2.1 0), wpa, (show ∀ n : Nat, _ = n from fun n => wfa.2.2.2.2.2.2.2.2.2.2.2.2.2.1 (Int.ofNat n)), (show _ = (0 : Nat) from wfa.2.2.2.2.2.2.2.2.2.2.2.2.2.1 0), getL, takeL, dropL, TK.isAgg, reduceIte])
  exact hR _ _ ⟨rfl, rfl⟩
theorem pdq0 (z : Int) : VCalls (P ()) 172 [.nils, .d (.int .i64 0), .d (.int .i64 0), .d (.int .i64 z), .clo 134 [] []] [] (fun r H => r = .tup [] ∧ H = []) := by
  refine VCalls_of_Wo (Tf := @T) @tabOk [(17, upF 0 17)] 400 Tryz.func172 rfl (fun {_} => by kernel_rfl) (Nat.le_of_ble_eq_true rfl) @fun ⟨_, _, _, _, _, _, _, _, _, _, _, _, _, _, _, _, _, _, _, _, _, _, _, _, _, _, _, _, _, _, _, _, _, _, _, _, _, _, wp, wf⟩ nH R hnH hR => ?_
  subst hnH
  cbv
  try simp only [wp, (show ∀ n : Nat, _ = n from fun n => wf.2.2.2.2.2.2.2.2.2.2.2.2.2.1 (Int.ofNat n)), getL, takeL, dropL, TK.isAgg, reduceIte]
  refine loopO (Tf := @T) @tabOk [(17, upF 0 17)] 400 (fun y : Unit => ⟨[.nils, .d (.int .i64 0), .d (.int .i64 0), .d (.int .i64 z), .clo 134 [] [], .undef, .undef, .undef, .undef, .undef, .d (.bool true), .d (.bool true), .undef, .undef, .undef, .undef, .undef, .undef, .undef, .undef, .undef, .undef, .undef, .undef, .undef, .undef, .undef, .undef, .undef, .undef, .undef, .undef, .undef, .undef, .undef, .undef, .undef, .undef, .undef, .undef, .undef, .undef, .undef, .undef, .undef, .undef, .undef, .undef, .undef, .undef, .undef, .undef, .undef, .undef, .undef, .undef, .undef, .undef, .undef, .undef, .undef, .undef, .undef, .undef, .undef, .undef, .undef, .undef, .undef, .undef, .undef, .undef, .undef, .undef, .undef, .undef, .undef, .undef, .undef, .undef, .undef, .undef, .undef, .undef, .undef, .undef, .undef, .undef, .undef, .undef, .undef, .undef, .undef, .undef, .undef, .undef, .undef, .undef, .undef, .undef, .undef, .undef, .undef, .undef, .undef, .undef, .undef, .undef, .undef, .undef, .undef, .undef, .undef, .undef, .undef, .undef, .undef, .undef, .undef, .undef, .undef, .undef, .undef, .undef, .undef, .undef, .undef, .undef, .undef, .undef, .undef, .undef, .undef, .undef, .undef, .undef, .undef, .undef, .undef, .undef, .undef, .undef, .undef, .undef, .undef, .undef, .undef, .undef], []⟩) (fun y => 0) (fun y => True) () trivial (fun {_} => by kernel_rfl) ?_ (fun i => by kernel_rfl) @fun ⟨_, _, _, _, _, _, _, _, _, _, _, _, _, _, _, _, _, _, _, _, _, _, _, _, _, _, _, _, _, _, _, _, _, _, _, _, _, _, wpa, wfa⟩ _ Bk hi hBk => ?_
  · ((cbv; try simp only [wf, exD, exL, exT, exB, exA, leLs, leL_d, leL_undef, leL_nils, leA_nils, deq_refl, deq_int, deq_bool, deq_str, and_true, true_and, AObj.iter.injEq, nc, nc']; try simp (disch := omega) only [w64, w32, wu8]); first | done | rfl | omega | (simp; done) | (simp; omega) | skip)
  (cbv; try simp only [wp, (show ∀ n : Nat, _ = n from fun n => wf.2.2.2.2.2.2.2.2.2.2.2.2.2.1 (Int.ofNat n)), (show _ = (0 : Nat) from wf.2.2.2.2.2.2.2.2.2.2.2.2.2.1 0), wpa, (show ∀ n : Nat, _ = n from fun n => wfa.2.2.2.2.2.2.2.2.2.2.2.2.2.1 (Int.ofNat n)), (show _ = (0 : Nat) from wfa.2.2.2.2.2.2.2.2.2.2.2.2.2.1 0), getL, takeL, dropL, TK.isAgg, reduceIte])
  refine ⟨fun e => ?_, fun e => ?_⟩
  · (refine Later.mk ?_; cbv; try simp only [wp, (show ∀ n : Nat, _ = n from fun n => wf.2.2.2.2.2.2.2.2.2.2.2.2.2.1 (Int.ofNat n)), (show _ = (0 : Nat) from wf.2.2.2.2.2.2.2.2.2.2.2.2.2.1 0), wpa, (show ∀ n : Nat, _ = n from fun n => wfa.2.2.2.2.2.2.2.2.2.2.2.2.2.1 (Int.ofNat n)), (show _ = (0 : Nat) from wfa.2.2.2.2.2.2.2.2.2.2.2.2.2.1 0), getL, takeL, dropL, TK.isAgg, reduceIte])
    refine CallW.of insSort0 ?_
    rintro _ _ ⟨rfl, rfl⟩
    (cbv; try simp only [wp, (show ∀ n : Nat, _ = n from fun n => wf.2.2.2.2.2.2.2.2.2.2.2.2.2.1 (Int.ofNat n)), (show _ = (0 : Nat) from wf.2.2.2.2.2.2.2.2.2.2.2.2.2.1 0), wpa, (show ∀ n : Nat, _ = n from fun n => wfa.2.2.2.2.2.2.2.2.2.2.2.2.2.1 (Int.ofNat n)), (show _ = (0 : Nat) from wfa.2.2.2.2.2.2.2.2.2.2.2.2.2.1 0), getL, takeL, dropL, TK.isAgg, reduceIte])
    exact hR _ _ ⟨rfl, rfl⟩
  · exact absurd e (by (try simp only [wf, wfa, nc, nc', Int.toNat_natCast, bsz, ByteArray.size_append, List.length_cons, List.length_nil] at *); (try simp (disch := omega) only [w64, w32, wu8] at *); first | done | omega)
theorem SortF0 : VCalls (P ()) 133 [.nils, .clo 134 [] []] [] (fun r H => r = .tup [] ∧ H = []) := by
  refine VCalls_of_Wo (Tf := @T) @tabOk [] 400 Tryz.func133 rfl (fun {_} => by kernel_rfl) (Nat.le_of_ble_eq_true rfl) @fun ⟨_, _, _, _, _, _, _, _, _, _, _, _, _, _, _, _, _, _, _, _, _, _, _, _, _, _, _, _, _, _, _, _, _, _, _, _, _, _, wp, wf⟩ nH R hnH hR => ?_
  subst hnH
  cbv
  try simp only [wp, (show ∀ n : Nat, _ = n from fun n => wf.2.2.2.2.2.2.2.2.2.2.2.2.2.1 (Int.ofNat n)), getL, takeL, dropL, TK.isAgg, reduceIte]
  refine (bLen _ ?_ ?_).call ?_
  · ((try simp only [wf, nc, nc', Int.toNat_natCast, bsz, ByteArray.size_append, List.length_cons, List.length_nil] at *); (try simp (disch := omega) only [w64, w32, wu8] at *))
    rw [wu64 (by omega) (by omega)]; omega
  · ((try simp only [wf, nc, nc', Int.toNat_natCast, bsz, ByteArray.size_append, List.length_cons, List.length_nil] at *); (try simp (disch := omega) only [w64, w32, wu8] at *))
    rw [wu64 (by omega) (by omega)]; omega
  rintro _ ⟨z, rfl⟩
  (cbv; try simp only [wp, (show ∀ n : Nat, _ = n from fun n => wf.2.2.2.2.2.2.2.2.2.2.2.2.2.1 (Int.ofNat n)), (show _ = (0 : Nat) from wf.2.2.2.2.2.2.2.2.2.2.2.2.2.1 0), getL, takeL, dropL, TK.isAgg, reduceIte])
  refine CallW.of (pdq0 _) ?_
  rintro _ _ ⟨rfl, rfl⟩
  (cbv; try simp only [wp, (show ∀ n : Nat, _ = n from fun n => wf.2.2.2.2.2.2.2.2.2.2.2.2.2.1 (Int.ofNat n)), (show _ = (0 : Nat) from wf.2.2.2.2.2.2.2.2.2.2.2.2.2.1 0), getL, takeL, dropL, TK.isAgg, reduceIte])
  exact hR _ _ ⟨rfl, rfl⟩
theorem Sorted0 (n : Nat) (V P0 : Nat → Int) (hn : n ≤ 8) : VCalls (P ()) 85 [.d (.sl n 2 (lvF V P0))] [] (fun r H => (n = 0 ∧ r = .nils ∧ H = []) ∨ ∃ V' P', (lst V' P' n).Perm (lst V P0 n) ∧ upTo V' n ∧ r = .ref 0 0 n 2 ∧ H = [.arr n 2 (lvF V' P') 0]) := by
  refine VCalls_of_Wo (Tf := @T) @tabOk [] 400 Tryz.func85 rfl (fun {_} => by kernel_rfl) (Nat.le_of_ble_eq_true rfl) @fun ⟨_, _, _, _, _, _, _, _, _, _, _, _, _, _, _, _, _, _, _, _, _, _, _, _, _, _, _, _, _, _, _, _, _, _, _, _, _, _, wp, wf⟩ nH R hnH hR => ?_
  subst hnH
  cbv
  try simp only [wp, (show ∀ n : Nat, _ = n from fun n => wf.2.2.2.2.2.2.2.2.2.2.2.2.2.1 (Int.ofNat n)), getL, takeL, dropL, TK.isAgg, reduceIte]
  refine CallW.of (Clone n (lvF V P0) (by omega)) ?_
  rintro _ _ (⟨rfl, rfl, rfl⟩ | ⟨rfl, rfl⟩)
  · (cbv; try simp only [wp, (show ∀ n : Nat, _ = n from fun n => wf.2.2.2.2.2.2.2.2.2.2.2.2.2.1 (Int.ofNat n)), (show _ = (0 : Nat) from wf.2.2.2.2.2.2.2.2.2.2.2.2.2.1 0), getL, takeL, dropL, TK.isAgg, reduceIte])
    refine CallW.of SortF0 ?_
    rintro _ _ ⟨rfl, rfl⟩
    (cbv; try simp only [wp, (show ∀ n : Nat, _ = n from fun n => wf.2.2.2.2.2.2.2.2.2.2.2.2.2.1 (Int.ofNat n)), (show _ = (0 : Nat) from wf.2.2.2.2.2.2.2.2.2.2.2.2.2.1 0), getL, takeL, dropL, TK.isAgg, reduceIte])
    exact hR _ _ (.inl ⟨rfl, rfl, rfl⟩)
  · (cbv; try simp only [wp, (show ∀ n : Nat, _ = n from fun n => wf.2.2.2.2.2.2.2.2.2.2.2.2.2.1 (Int.ofNat n)), (show _ = (0 : Nat) from wf.2.2.2.2.2.2.2.2.2.2.2.2.2.1 0), getL, takeL, dropL, TK.isAgg, reduceIte])
    refine CallW.of (SortF n V P0 hn) ?_
    rintro _ _ ⟨rfl, V', P', h1, h2, rfl⟩
    (cbv; try simp only [wp, (show ∀ n : Nat, _ = n from fun n => wf.2.2.2.2.2.2.2.2.2.2.2.2.2.1 (Int.ofNat n)), (show _ = (0 : Nat) from wf.2.2.2.2.2.2.2.2.2.2.2.2.2.1 0), getL, takeL, dropL, TK.isAgg, reduceIte])
    exact hR _ _ (.inr ⟨V', P', h1, h2, rfl, rfl⟩)
/-- sorted, frozen -/
theorem Sorted (n : Nat) (V P0 : Nat → Int) (hn : n ≤ 8) : VFun (P ()) 85 [.d (.sl n 2 (lvF V P0))] (fun r => ∃ V' P', (lst V' P' n).Perm (lst V P0 n) ∧ upTo V' n ∧ r = .d (.sl n 2 (lvF V' P'))) :=
  VCalls.pure rfl (Sorted0 n V P0 hn) fun r H h => by
    rcases h with ⟨rfl, rfl, rfl⟩ | ⟨V', P', h1, h2, rfl, rfl⟩
    · exact ⟨_, .nils _ _, V, P0, .refl _, fun k l h1 h2 => by omega, rfl⟩
    · exact ⟨_, .ref0 0 n 2 n 0 _ rfl rfl, V', P', h1, h2, rfl⟩
/-- a level and an error, as results -/
def LvRes (o : Option (Int × List Pt)) (err : Int) (r : A) : Prop := ∃ c n V P e, r = .tup [lv c n V P, .d (.int .i64 e)] ∧ n < 2 ^ 61 ∧ (o = none → e = err ∧ c = 0 ∧ n = 0) ∧ ∀ x, o = some x → e = 0 ∧ c = x.1 ∧ lst V P n = x.2
theorem canonical (c : Int) (n : Nat) (V P0 : Nat → Int) (hn : n < 2 ^ 61) : VFun (P ()) 89 [.d (.int .i64 c), .d (.sl n 2 (lvF V P0))] (LvRes (canonL c (lst V P0 n)) 2) := by
  refine vfunO (Tf := @T) @tabOk [] 400 Tryz.func89 rfl (fun {_} => by kernel_rfl) rfl (Nat.le_of_ble_eq_true rfl) @fun ⟨_, _, _, _, _, _, _, _, _, _, _, _, _, _, _, _, _, _, _, _, _, _, _, _, _, _, _, _, _, _, _, _, _, _, _, _, _, _, wp, wf⟩ R hR => ?_
  cbv
  try simp only [wp, (show ∀ n : Nat, _ = n from fun n => wf.2.2.2.2.2.2.2.2.2.2.2.2.2.1 (Int.ofNat n)), getL, takeL, dropL, TK.isAgg, reduceIte]
  replace hR := fun c' n' V' P' e H r h1 h2 h3 hf => hR r H (.tup [lv c' n' V' P', .d (.int .i64 e)]) hf ⟨c', n', V', P', e, rfl, h1, h2, h3⟩
  obtain ⟨o, ho⟩ : ∃ o, o = canonL c (lst V P0 n) := ⟨_, rfl⟩
  rw [← ho] at hR
  unfold canonL at ho
  rw [mostF_lst, lst_length] at ho
  refine (most n V P0 (by omega)).call ?_
  rintro _ ⟨x, hx, rfl⟩
  have ho := ho
  rw [← hx] at ho
  have bad : (if c ≤ x then 0 else c) > 1000 ∨ x > 1000 ∨ n > 8 → ∀ H, R (.tup [.agg [.d (.int .i64 0), .nils], .d (.int .i64 2)]) H := fun h H => by
    rw [if_pos h] at ho
    exact hR 0 0 V P0 2 H _ (by decide) (fun _ => ⟨rfl, rfl, rfl⟩) (fun x hx => by rw [ho] at hx; cases hx) (.tup2 (.agg2 (.d _) (.nils _ _)) (.d _))
  have good : ¬ ((if c ≤ x then 0 else c) > 1000 ∨ x > 1000 ∨ n > 8) → ∀ r H, Frz H r (.tup [lv (if c ≤ x then 0 else c) n V P0, .d (.int .i64 0)]) → R r H := fun h r H hf => by
    rw [if_neg h] at ho
    exact hR _ n V P0 0 H _ hn (fun h => by rw [ho] at h; cases h) (fun x hx => by rw [ho] at hx; cases hx; exact ⟨rfl, rfl, rfl⟩) hf
  clear hR ho
  (cbv; try simp only [wp, (show ∀ n : Nat, _ = n from fun n => wf.2.2.2.2.2.2.2.2.2.2.2.2.2.1 (Int.ofNat n)), (show _ = (0 : Nat) from wf.2.2.2.2.2.2.2.2.2.2.2.2.2.1 0), getL, takeL, dropL, TK.isAgg, reduceIte])
  repeat' first
    | trivial
    | with_reducible refine And.intro ?_ ?_
    | intro c9
    | (refine (most n V P0 (by omega)).call ?_
       rintro _ ⟨y, hy, rfl⟩
       obtain rfl : y = x := by rw [hx, hy]
       (cbv; try simp only [wp, (show ∀ n : Nat, _ = n from fun n => wf.2.2.2.2.2.2.2.2.2.2.2.2.2.1 (Int.ofNat n)), (show _ = (0 : Nat) from wf.2.2.2.2.2.2.2.2.2.2.2.2.2.1 0), getL, takeL, dropL, TK.isAgg, reduceIte]))
    | (exfalso; exact (by (try simp only [wf, nc, nc', Int.toNat_natCast, bsz, ByteArray.size_append, List.length_cons, List.length_nil] at *); (try simp (disch := omega) only [w64, w32, wu8] at *); first | done | omega))
    | (refine bad ?_ _
       split <;> exact (by (try simp only [wf, nc, nc', Int.toNat_natCast, bsz, ByteArray.size_append, List.length_cons, List.length_nil] at *); (try simp (disch := omega) only [w64, w32, wu8] at *); first | done | omega))
    | (refine good (by split <;> exact (by (try simp only [wf, nc, nc', Int.toNat_natCast, bsz, ByteArray.size_append, List.length_cons, List.length_nil] at *); (try simp (disch := omega) only [w64, w32, wu8] at *); first | done | omega)) _ _ ?_
       first
       | rw [if_pos (by assumption)]
       | rw [if_neg (by omega)]
       first
       | exact .tup2 (.agg2 (.d _) (.d _)) (.d _)
       | (obtain rfl : n = 0 := (by (try simp only [wf, nc, nc', Int.toNat_natCast, bsz, ByteArray.size_append, List.length_cons, List.length_nil] at *); (try simp (disch := omega) only [w64, w32, wu8] at *); first | done | omega)
          exact .tup2 (.agg2 (.d _) (.nils _ _)) (.d _)))
    | (refine Later.mk ?_; cbv; try simp only [wp, (show ∀ n : Nat, _ = n from fun n => wf.2.2.2.2.2.2.2.2.2.2.2.2.2.1 (Int.ofNat n)), (show _ = (0 : Nat) from wf.2.2.2.2.2.2.2.2.2.2.2.2.2.1 0), getL, takeL, dropL, TK.isAgg, reduceIte])
/-- the canonical form, or why there is none -/
def NormR (c : Int) (n : Nat) (V P : Nat → Int) (r : A) : Prop := (¬ ValidP c n V P ∧ LvRes none 4 r) ∨ (ValidP c n V P ∧ ∃ q, asc q ∧ q.Perm (lst V P n) ∧ LvRes (canonL c q) 2 r)
theorem Normal (c : Int) (n : Nat) (V P0 : Nat → Int) (hn : n < 2 ^ 61) : VFun (P ()) 151 [lv c n V P0] (NormR c n V P0) := by
  refine vfunO (Tf := @T) @tabOk [] 400 Tryz.func151 rfl (fun {_} => by kernel_rfl) rfl (Nat.le_of_ble_eq_true rfl) @fun ⟨_, _, _, _, _, _, _, _, _, _, _, _, _, _, _, _, _, _, _, _, _, _, _, _, _, _, _, _, _, _, _, _, _, _, _, _, _, _, wp, wf⟩ R hR => ?_
  cbv
  try simp only [wp, (show ∀ n : Nat, _ = n from fun n => wf.2.2.2.2.2.2.2.2.2.2.2.2.2.1 (Int.ofNat n)), getL, takeL, dropL, TK.isAgg, reduceIte]
  refine (Valid c n V P0 (by omega)).call ?_
  rintro _ ⟨b, hb, rfl⟩
  rcases hb.dich with ⟨rfl, v⟩ | ⟨rfl, v⟩ <;> clear hb <;> (cbv; try simp only [wp, (show ∀ n : Nat, _ = n from fun n => wf.2.2.2.2.2.2.2.2.2.2.2.2.2.1 (Int.ofNat n)), (show _ = (0 : Nat) from wf.2.2.2.2.2.2.2.2.2.2.2.2.2.1 0), getL, takeL, dropL, TK.isAgg, reduceIte]) <;> (refine Later.mk ?_; cbv; try simp only [wp, (show ∀ n : Nat, _ = n from fun n => wf.2.2.2.2.2.2.2.2.2.2.2.2.2.1 (Int.ofNat n)), (show _ = (0 : Nat) from wf.2.2.2.2.2.2.2.2.2.2.2.2.2.1 0), getL, takeL, dropL, TK.isAgg, reduceIte])
  · repeat' first
      | trivial
      | with_reducible refine And.intro ?_ ?_
      | (refine (Sorted n V P0 v.2.2.1).call ?_
         rintro _ ⟨V', P', h1, h2, rfl⟩
         (cbv; try simp only [wp, (show ∀ n : Nat, _ = n from fun n => wf.2.2.2.2.2.2.2.2.2.2.2.2.2.1 (Int.ofNat n)), (show _ = (0 : Nat) from wf.2.2.2.2.2.2.2.2.2.2.2.2.2.1 0), getL, takeL, dropL, TK.isAgg, reduceIte])
         repeat' (with_reducible refine And.intro ?_ ?_))
    all_goals
      refine (canonical c n V' P' hn).call ?_
      rintro _ ⟨c2, n2, V2, P2, e, rfl, k1, k2, k3⟩
      (cbv; try simp only [wp, (show ∀ n : Nat, _ = n from fun n => wf.2.2.2.2.2.2.2.2.2.2.2.2.2.1 (Int.ofNat n)), (show _ = (0 : Nat) from wf.2.2.2.2.2.2.2.2.2.2.2.2.2.1 0), getL, takeL, dropL, TK.isAgg, reduceIte])
      repeat' first | trivial | with_reducible refine And.intro ?_ ?_ | intro c9
      all_goals exact hR _ _ (.tup [lv c2 n2 V2 P2, .d (.int .i64 e)]) (.tup2 (.agg2 (.d _) (.d _)) (.d _)) (.inr ⟨v, _, sorted_asc h1 (fun i k a b => (v.2.2.2 i b).2.2.2.2 k a) h2, h1, c2, n2, V2, P2, e, rfl, k1, k2, k3⟩)
  · exact hR _ _ (.tup [lv 0 0 V P0, .d (.int .i64 4)]) (.tup2 (.agg2 (.d _) (.nils _ _)) (.d _)) (.inl ⟨v, 0, 0, V, P0, 4, rfl, by decide, fun _ => ⟨rfl, rfl, rfl⟩, fun x hx => by cases hx⟩)
end Go.VM

namespace Go.VM
open Go.Proofs Go
set_option maxRecDepth 100000
set_option linter.unusedVariables false
set_option linter.unusedSimpArgs false
structure Py where
  i : Nat
  d : Bool
  m : Nat
  V : Nat → Int
  P : Nat → Int
theorem rput (n : Nat) (V P0 : Nat → Int) (v p : Int) (hn : n < 2 ^ 20) (hasc : ∀ k l, k < l → l < n → V k < V l) : VFun (P ()) 137 [.d (.sl n 2 (lvF V P0)), .agg [.d (.int .i64 v), .d (.int .i64 p)]]
    (fun r => ∃ m V' P', lst V' P' m = putL (v, p) (lst V P0 n) ∧ m ≤ n + 1 ∧ r = .d (.sl m 2 (lvF V' P'))) := by
  refine vfunO (Tf := @T) @tabOk [] 400 Tryz.func137 rfl (fun {_} => by kernel_rfl) rfl (Nat.le_of_ble_eq_true rfl) @fun ⟨_, _, _, _, _, _, _, _, _, _, _, _, _, _, _, _, _, _, _, _, _, _, _, _, _, _, _, _, _, _, _, _, _, _, _, _, _, _, wp, wf⟩ R hR => ?_
  cbv
  try simp only [wp, (show ∀ n : Nat, _ = n from fun n => wf.2.2.2.2.2.2.2.2.2.2.2.2.2.1 (Int.ofNat n)), getL, takeL, dropL, TK.isAgg, reduceIte]
  replace hR := fun m V' P' H r h1 h2 hf => hR r H (.d (.sl m 2 (lvF V' P'))) hf ⟨m, V', P', h1, h2, rfl⟩
  refine loopGhost 5 2 rfl ?_
  refine loopO (Tf := @T) @tabOk [] 400 (fun y : Py => ⟨[.d (.sl n 2 (lvF V P0)), .undef, .undef, .ptr 0 0, .undef, .ref 1 0 y.m 2, .d (.bool y.d), .d (.int .i64 y.i), .undef, .undef, .undef, .undef, .undef, .undef, .undef, .undef, .undef, .undef, .undef, .undef, .undef, .undef, .undef, .undef, .undef, .undef, .undef, .undef, .undef, .undef, .undef, .undef, .undef, .undef, .undef, .undef, .undef, .undef, .undef, .undef, .undef, .undef, .undef, .undef, .undef, .undef, .undef, .undef, .undef, .undef, .undef, .undef, .undef, .undef], [.box [.d (.int .i64 v), .d (.int .i64 p)], .arr y.m 2 (lvF y.V y.P) 0]⟩) (fun y => n - y.i) (fun y => y.i ≤ n ∧ y.m ≤ y.i + 1 ∧ (y.d = false → y.m ≤ y.i) ∧ PutS V P0 v p y.i y.d (lst y.V y.P y.m)) ⟨0, false, 0, V, P0⟩ ⟨Nat.zero_le _, Nat.zero_le _, fun _ => Nat.zero_le _, .zero _ _ _ _⟩ (fun {_} => by kernel_rfl) ?_ (fun i => by kernel_rfl) @fun ⟨_, _, _, _, _, _, _, _, _, _, _, _, _, _, _, _, _, _, _, _, _, _, _, _, _, _, _, _, _, _, _, _, _, _, _, _, _, _, wpa, wfa⟩ ⟨i, d, m, V1, P1⟩ Bk hi hBk => ?_
  · (cbv; try simp only [wf, exD, exL, exT, exB, exA, leLs, leL_d, leL_undef, leL_nils, leA_nils, deq_refl, deq_int, deq_bool, deq_str, and_true, true_and, AObj.iter.injEq, nc, nc']; try simp (disch := omega) only [w64, w32, wu8])
    exact ⟨rfl, Nat.le_refl _, Nat.le_refl _, fun i j hi => absurd hi (Nat.not_lt_zero _)⟩
  obtain ⟨i1, i2, i3, i4⟩ := hi
  dsimp only at i1 i2 i3 i4
  cases d
  · have i3 := i3 rfl
    (cbv; try simp only [wp, (show ∀ n : Nat, _ = n from fun n => wf.2.2.2.2.2.2.2.2.2.2.2.2.2.1 (Int.ofNat n)), (show _ = (0 : Nat) from wf.2.2.2.2.2.2.2.2.2.2.2.2.2.1 0), wpa, (show ∀ n : Nat, _ = n from fun n => wfa.2.2.2.2.2.2.2.2.2.2.2.2.2.1 (Int.ofNat n)), (show _ = (0 : Nat) from wfa.2.2.2.2.2.2.2.2.2.2.2.2.2.1 0), getL, takeL, dropL, TK.isAgg, reduceIte])
    refine ⟨fun e => ?_, fun e => ?_⟩
    · have e : i < n := (by (try simp only [wf, wfa, nc, nc', Int.toNat_natCast, bsz, ByteArray.size_append, List.length_cons, List.length_nil] at *); (try simp (disch := omega) only [w64, w32, wu8] at *); first | done | omega)
      (refine Later.mk ?_; cbv; try simp only [wp, (show ∀ n : Nat, _ = n from fun n => wf.2.2.2.2.2.2.2.2.2.2.2.2.2.1 (Int.ofNat n)), (show _ = (0 : Nat) from wf.2.2.2.2.2.2.2.2.2.2.2.2.2.1 0), wpa, (show ∀ n : Nat, _ = n from fun n => wfa.2.2.2.2.2.2.2.2.2.2.2.2.2.1 (Int.ofNat n)), (show _ = (0 : Nat) from wfa.2.2.2.2.2.2.2.2.2.2.2.2.2.1 0), getL, takeL, dropL, TK.isAgg, reduceIte])
      repeat' first | with_reducible refine And.intro ?_ ?_ | intro c9
      all_goals first | exact (by (try simp only [wf, wfa, nc, nc', Int.toNat_natCast, bsz, ByteArray.size_append, List.length_cons, List.length_nil] at *); (try simp (disch := omega) only [w64, w32, wu8] at *); first | done | omega) | trivial | skip
      all_goals (refine Later.mk ?_; cbv; try simp only [wp, (show ∀ n : Nat, _ = n from fun n => wf.2.2.2.2.2.2.2.2.2.2.2.2.2.1 (Int.ofNat n)), (show _ = (0 : Nat) from wf.2.2.2.2.2.2.2.2.2.2.2.2.2.1 0), wpa, (show ∀ n : Nat, _ = n from fun n => wfa.2.2.2.2.2.2.2.2.2.2.2.2.2.1 (Int.ofNat n)), (show _ = (0 : Nat) from wfa.2.2.2.2.2.2.2.2.2.2.2.2.2.1 0), getL, takeL, dropL, TK.isAgg, reduceIte])
      all_goals
        repeat' first | with_reducible refine And.intro ?_ ?_ | intro c9
        all_goals first | exact (by (try simp only [wf, wfa, nc, nc', Int.toNat_natCast, bsz, ByteArray.size_append, List.length_cons, List.length_nil] at *); (try simp (disch := omega) only [w64, w32, wu8] at *); first | done | omega) | trivial | skip
      all_goals (refine Later.mk ?_; cbv; try simp only [wp, (show ∀ n : Nat, _ = n from fun n => wf.2.2.2.2.2.2.2.2.2.2.2.2.2.1 (Int.ofNat n)), (show _ = (0 : Nat) from wf.2.2.2.2.2.2.2.2.2.2.2.2.2.1 0), wpa, (show ∀ n : Nat, _ = n from fun n => wfa.2.2.2.2.2.2.2.2.2.2.2.2.2.1 (Int.ofNat n)), (show _ = (0 : Nat) from wfa.2.2.2.2.2.2.2.2.2.2.2.2.2.1 0), getL, takeL, dropL, TK.isAgg, reduceIte])
      all_goals
        repeat' first | with_reducible refine And.intro ?_ ?_ | intro c9
        all_goals first | exact (by (try simp only [wf, wfa, nc, nc', Int.toNat_natCast, bsz, ByteArray.size_append, List.length_cons, List.length_nil] at *); (try simp (disch := omega) only [w64, w32, wu8] at *); first | done | omega) | trivial | skip
      · have hv : v < V i := (by (try simp only [wf, wfa, nc, nc', Int.toNat_natCast, bsz, ByteArray.size_append, List.length_cons, List.length_nil] at *); (try simp (disch := omega) only [w64, w32, wu8] at *); first | done | omega)
        refine hBk ⟨i + 1, true, m + 1 + 1, ext (ext V1 m v) (m + 1) (V i), ext (ext P1 m p) (m + 1) (P0 i)⟩ _ (by dsimp only; omega) ⟨by dsimp only; omega, by dsimp only; omega, fun h => (by cases h), by dsimp only; rw [lst_ext, lst_ext]; exact i4.lt hv⟩ ?_
        (cbv; try simp only [wf, wfa, exD, exL, exT, exB, exA, leLs, leL_d, leL_undef, leL_nils, leA_nils, deq_refl, deq_int, deq_bool, deq_str, and_true, true_and, AObj.iter.injEq, nc, nc']; try simp (disch := omega) only [w64, w32, wu8])
        ((try simp only [wf, wfa, nc, nc', Int.toNat_natCast, bsz, ByteArray.size_append, List.length_cons, List.length_nil] at *); (try simp (disch := omega) only [w64, w32, wu8] at *))
        exact ⟨by omega, by omega, Nat.zero_le _, fun x j hx hj => .of_eq (ext_row2 V1 P1 m v p (V i) (P0 i) x j hx hj)⟩
      · have hv : v = V i := (by (try simp only [wf, wfa, nc, nc', Int.toNat_natCast, bsz, ByteArray.size_append, List.length_cons, List.length_nil] at *); (try simp (disch := omega) only [w64, w32, wu8] at *); first | done | omega)
        obtain ⟨q, hq⟩ : ∃ q, q = max p (P0 i) := ⟨_, rfl⟩
        refine hBk ⟨i + 1, true, m + 1, ext V1 m (V i), ext P1 m (q)⟩ _ (by dsimp only; omega) ⟨by dsimp only; omega, by dsimp only; omega, fun h => (by cases h), by dsimp only; rw [lst_ext]; exact (by rw [hq]; exact i4.eq hv)⟩ ?_
        (cbv; try simp only [wf, wfa, exD, exL, exT, exB, exA, leLs, leL_d, leL_undef, leL_nils, leA_nils, deq_refl, deq_int, deq_bool, deq_str, and_true, true_and, AObj.iter.injEq, nc, nc']; try simp (disch := omega) only [w64, w32, wu8])
        ((try simp only [wf, wfa, nc, nc', Int.toNat_natCast, bsz, ByteArray.size_append, List.length_cons, List.length_nil] at *); (try simp (disch := omega) only [w64, w32, wu8] at *))
        rw [show (if p < P0 i then P0 i else p) = q by rw [hq]; split <;> omega]
        exact ⟨by omega, by omega, Nat.zero_le _, fun x j hx hj => .of_eq (ext_row V1 P1 m (V i) _ x j hx hj)⟩
      · have hv : V i < v := (by (try simp only [wf, wfa, nc, nc', Int.toNat_natCast, bsz, ByteArray.size_append, List.length_cons, List.length_nil] at *); (try simp (disch := omega) only [w64, w32, wu8] at *); first | done | omega)
        refine hBk ⟨i + 1, false, m + 1, ext V1 m (V i), ext P1 m (P0 i)⟩ _ (by dsimp only; omega) ⟨by dsimp only; omega, by dsimp only; omega, fun _ => (by dsimp only; omega), by dsimp only; rw [lst_ext]; exact i4.gt hv⟩ ?_
        (cbv; try simp only [wf, wfa, exD, exL, exT, exB, exA, leLs, leL_d, leL_undef, leL_nils, leA_nils, deq_refl, deq_int, deq_bool, deq_str, and_true, true_and, AObj.iter.injEq, nc, nc']; try simp (disch := omega) only [w64, w32, wu8])
        ((try simp only [wf, wfa, nc, nc', Int.toNat_natCast, bsz, ByteArray.size_append, List.length_cons, List.length_nil] at *); (try simp (disch := omega) only [w64, w32, wu8] at *))
        exact ⟨by omega, by omega, Nat.zero_le _, fun x j hx hj => .of_eq (ext_row V1 P1 m (V i) _ x j hx hj)⟩
    · obtain rfl : i = n := (by (try simp only [wf, wfa, nc, nc', Int.toNat_natCast, bsz, ByteArray.size_append, List.length_cons, List.length_nil] at *); (try simp (disch := omega) only [w64, w32, wu8] at *); first | done | omega)
      (refine Later.mk ?_; cbv; try simp only [wp, (show ∀ n : Nat, _ = n from fun n => wf.2.2.2.2.2.2.2.2.2.2.2.2.2.1 (Int.ofNat n)), (show _ = (0 : Nat) from wf.2.2.2.2.2.2.2.2.2.2.2.2.2.1 0), wpa, (show ∀ n : Nat, _ = n from fun n => wfa.2.2.2.2.2.2.2.2.2.2.2.2.2.1 (Int.ofNat n)), (show _ = (0 : Nat) from wfa.2.2.2.2.2.2.2.2.2.2.2.2.2.1 0), getL, takeL, dropL, TK.isAgg, reduceIte])
      (refine Later.mk ?_; cbv; try simp only [wp, (show ∀ n : Nat, _ = n from fun n => wf.2.2.2.2.2.2.2.2.2.2.2.2.2.1 (Int.ofNat n)), (show _ = (0 : Nat) from wf.2.2.2.2.2.2.2.2.2.2.2.2.2.1 0), wpa, (show ∀ n : Nat, _ = n from fun n => wfa.2.2.2.2.2.2.2.2.2.2.2.2.2.1 (Int.ofNat n)), (show _ = (0 : Nat) from wfa.2.2.2.2.2.2.2.2.2.2.2.2.2.1 0), getL, takeL, dropL, TK.isAgg, reduceIte])
      repeat' first | trivial | with_reducible refine And.intro ?_ ?_ | intro c9
      all_goals first | exact (by (try simp only [wf, wfa, nc, nc', Int.toNat_natCast, bsz, ByteArray.size_append, List.length_cons, List.length_nil] at *); (try simp (disch := omega) only [w64, w32, wu8] at *); first | done | omega) | skip
      refine hR (m + 1) (ext V1 m v) (ext P1 m p) _ _ (by rw [lst_ext]; exact i4.fin.2 rfl) (by omega) ?_
      ((try simp only [wf, wfa, nc, nc', Int.toNat_natCast, bsz, ByteArray.size_append, List.length_cons, List.length_nil] at *); (try simp (disch := omega) only [w64, w32, wu8] at *))
      exact .deq _ _ _ (.ref0 1 (m + 1) 2 (m + 1) 0 _ rfl rfl) (.sl _ _ _ _ fun x j hx hj => .of_eq (ext_row V1 P1 m v p x j hx hj))
  · (cbv; try simp only [wp, (show ∀ n : Nat, _ = n from fun n => wf.2.2.2.2.2.2.2.2.2.2.2.2.2.1 (Int.ofNat n)), (show _ = (0 : Nat) from wf.2.2.2.2.2.2.2.2.2.2.2.2.2.1 0), wpa, (show ∀ n : Nat, _ = n from fun n => wfa.2.2.2.2.2.2.2.2.2.2.2.2.2.1 (Int.ofNat n)), (show _ = (0 : Nat) from wfa.2.2.2.2.2.2.2.2.2.2.2.2.2.1 0), getL, takeL, dropL, TK.isAgg, reduceIte])
    refine ⟨fun e => ?_, fun e => ?_⟩
    · have e : i < n := (by (try simp only [wf, wfa, nc, nc', Int.toNat_natCast, bsz, ByteArray.size_append, List.length_cons, List.length_nil] at *); (try simp (disch := omega) only [w64, w32, wu8] at *); first | done | omega)
      (refine Later.mk ?_; cbv; try simp only [wp, (show ∀ n : Nat, _ = n from fun n => wf.2.2.2.2.2.2.2.2.2.2.2.2.2.1 (Int.ofNat n)), (show _ = (0 : Nat) from wf.2.2.2.2.2.2.2.2.2.2.2.2.2.1 0), wpa, (show ∀ n : Nat, _ = n from fun n => wfa.2.2.2.2.2.2.2.2.2.2.2.2.2.1 (Int.ofNat n)), (show _ = (0 : Nat) from wfa.2.2.2.2.2.2.2.2.2.2.2.2.2.1 0), getL, takeL, dropL, TK.isAgg, reduceIte])
      repeat' first | with_reducible refine And.intro ?_ ?_ | intro c9
      all_goals first | exact (by (try simp only [wf, wfa, nc, nc', Int.toNat_natCast, bsz, ByteArray.size_append, List.length_cons, List.length_nil] at *); (try simp (disch := omega) only [w64, w32, wu8] at *); first | done | omega) | trivial | skip
      all_goals (refine Later.mk ?_; cbv; try simp only [wp, (show ∀ n : Nat, _ = n from fun n => wf.2.2.2.2.2.2.2.2.2.2.2.2.2.1 (Int.ofNat n)), (show _ = (0 : Nat) from wf.2.2.2.2.2.2.2.2.2.2.2.2.2.1 0), wpa, (show ∀ n : Nat, _ = n from fun n => wfa.2.2.2.2.2.2.2.2.2.2.2.2.2.1 (Int.ofNat n)), (show _ = (0 : Nat) from wfa.2.2.2.2.2.2.2.2.2.2.2.2.2.1 0), getL, takeL, dropL, TK.isAgg, reduceIte])
      all_goals
        repeat' first | with_reducible refine And.intro ?_ ?_ | intro c9
        all_goals first | exact (by (try simp only [wf, wfa, nc, nc', Int.toNat_natCast, bsz, ByteArray.size_append, List.length_cons, List.length_nil] at *); (try simp (disch := omega) only [w64, w32, wu8] at *); first | done | omega) | trivial | skip
      all_goals obtain ⟨hv, i5⟩ := i4.up hasc e
      · exact absurd (show v = V i by assumption) (by omega)
      · (refine Later.mk ?_; cbv; try simp only [wp, (show ∀ n : Nat, _ = n from fun n => wf.2.2.2.2.2.2.2.2.2.2.2.2.2.1 (Int.ofNat n)), (show _ = (0 : Nat) from wf.2.2.2.2.2.2.2.2.2.2.2.2.2.1 0), wpa, (show ∀ n : Nat, _ = n from fun n => wfa.2.2.2.2.2.2.2.2.2.2.2.2.2.1 (Int.ofNat n)), (show _ = (0 : Nat) from wfa.2.2.2.2.2.2.2.2.2.2.2.2.2.1 0), getL, takeL, dropL, TK.isAgg, reduceIte])
        repeat' first | with_reducible refine And.intro ?_ ?_ | intro c9
        all_goals first | exact (by (try simp only [wf, wfa, nc, nc', Int.toNat_natCast, bsz, ByteArray.size_append, List.length_cons, List.length_nil] at *); (try simp (disch := omega) only [w64, w32, wu8] at *); first | done | omega) | trivial | skip
        refine hBk ⟨i + 1, true, m + 1, ext V1 m (V i), ext P1 m (P0 i)⟩ _ (by dsimp only; omega) ⟨by dsimp only; omega, by dsimp only; omega, fun h => (by cases h), by dsimp only; rw [lst_ext]; exact i5⟩ ?_
        (cbv; try simp only [wf, wfa, exD, exL, exT, exB, exA, leLs, leL_d, leL_undef, leL_nils, leA_nils, deq_refl, deq_int, deq_bool, deq_str, and_true, true_and, AObj.iter.injEq, nc, nc']; try simp (disch := omega) only [w64, w32, wu8])
        ((try simp only [wf, wfa, nc, nc', Int.toNat_natCast, bsz, ByteArray.size_append, List.length_cons, List.length_nil] at *); (try simp (disch := omega) only [w64, w32, wu8] at *))
        exact ⟨by omega, by omega, Nat.zero_le _, fun x j hx hj => .of_eq (ext_row V1 P1 m (V i) _ x j hx hj)⟩
    · obtain rfl : i = n := (by (try simp only [wf, wfa, nc, nc', Int.toNat_natCast, bsz, ByteArray.size_append, List.length_cons, List.length_nil] at *); (try simp (disch := omega) only [w64, w32, wu8] at *); first | done | omega)
      (refine Later.mk ?_; cbv; try simp only [wp, (show ∀ n : Nat, _ = n from fun n => wf.2.2.2.2.2.2.2.2.2.2.2.2.2.1 (Int.ofNat n)), (show _ = (0 : Nat) from wf.2.2.2.2.2.2.2.2.2.2.2.2.2.1 0), wpa, (show ∀ n : Nat, _ = n from fun n => wfa.2.2.2.2.2.2.2.2.2.2.2.2.2.1 (Int.ofNat n)), (show _ = (0 : Nat) from wfa.2.2.2.2.2.2.2.2.2.2.2.2.2.1 0), getL, takeL, dropL, TK.isAgg, reduceIte])
      (refine Later.mk ?_; cbv; try simp only [wp, (show ∀ n : Nat, _ = n from fun n => wf.2.2.2.2.2.2.2.2.2.2.2.2.2.1 (Int.ofNat n)), (show _ = (0 : Nat) from wf.2.2.2.2.2.2.2.2.2.2.2.2.2.1 0), wpa, (show ∀ n : Nat, _ = n from fun n => wfa.2.2.2.2.2.2.2.2.2.2.2.2.2.1 (Int.ofNat n)), (show _ = (0 : Nat) from wfa.2.2.2.2.2.2.2.2.2.2.2.2.2.1 0), getL, takeL, dropL, TK.isAgg, reduceIte])
      repeat' first | trivial | with_reducible refine And.intro ?_ ?_ | intro c9
      all_goals first | exact (by (try simp only [wf, wfa, nc, nc', Int.toNat_natCast, bsz, ByteArray.size_append, List.length_cons, List.length_nil] at *); (try simp (disch := omega) only [w64, w32, wu8] at *); first | done | omega) | skip
      exact hR m V1 P1 _ _ (i4.fin.1 rfl) (by omega) (.ref0 1 m 2 m 0 _ rfl rfl)
end Go.VM

namespace Go.VM
open Go.Proofs Go
set_option maxRecDepth 100000
set_option linter.unusedVariables false
set_option linter.unusedSimpArgs false
theorem rmore (c : Int) (n : Nat) (V P0 Q : Nat → Int) (p : Int) (hn : n < 2 ^ 20) (hp : ∀ i, i < n → -100000 ≤ P0 i ∧ P0 i ≤ 100000) (hp2 : -100000 ≤ p ∧ p ≤ 100000) (hQ : ∀ i, i < n → Q i = P0 i + p) : VCalls (P ()) 92 [lv c n V P0, .d (.int .i64 p)] []
    (fun r H => ∃ G, r = .ref 1 0 n 2 ∧ H = [.box [.d (.int .i64 c), .d (.sl n 2 (lvF V P0))], .arr n 2 (lvF V Q) 0] ++ G) := by
  refine VCalls_of_Wo (Tf := @T) @tabOk [(5, upF 0 19)] 400 Tryz.func92 rfl (fun {_} => by kernel_rfl) (Nat.le_of_ble_eq_true rfl) @fun ⟨_, _, _, _, _, _, _, _, _, _, _, _, _, _, _, _, _, _, _, _, _, _, _, _, _, _, _, _, _, _, _, _, _, _, _, _, _, _, wp, wf⟩ nH R hnH hR => ?_
  subst hnH
  cbv
  try simp only [wp, (show ∀ n : Nat, _ = n from fun n => wf.2.2.2.2.2.2.2.2.2.2.2.2.2.1 (Int.ofNat n)), getL, takeL, dropL, TK.isAgg, reduceIte]
  replace hR := fun G => hR (.ref 1 0 n 2) _ ⟨G, rfl, rfl⟩
  refine loopGhost 5 2 rfl ?_
  refine loopO (Tf := @T) @tabOk [(5, upF 0 19)] 400 (fun i : Nat => ⟨[.undef, .d (.int .i64 p), .ptr 0 0, .undef, .undef, .ref 1 0 i 2, .d (.int .i64 i), .undef, .undef, .undef, .undef, .undef, .undef, .undef, .undef, .undef, .undef, .undef, .undef, .undef, .undef, .undef, .undef, .undef, .undef, .undef, .undef, .undef, .undef, .undef, .undef, .undef, .undef], [.box [.d (.int .i64 c), .d (.sl n 2 (lvF V P0))], .arr i 2 (lvF V Q) 0]⟩) (fun i => n - i) (fun i => i ≤ n) 0 (Nat.zero_le _) (fun {_} => by kernel_rfl) ?_ (fun i => by kernel_rfl) @fun ⟨_, _, _, _, _, _, _, _, _, _, _, _, _, _, _, _, _, _, _, _, _, _, _, _, _, _, _, _, _, _, _, _, _, _, _, _, _, _, wpa, wfa⟩ i Bk hi hBk => ?_
  · (cbv; try simp only [wf, exD, exL, exT, exB, exA, leLs, leL_d, leL_undef, leL_nils, leA_nils, deq_refl, deq_int, deq_bool, deq_str, and_true, true_and, AObj.iter.injEq, nc, nc']; try simp (disch := omega) only [w64, w32, wu8])
    exact ⟨rfl, Nat.le_refl _, Nat.le_refl _, fun i j hi => absurd hi (Nat.not_lt_zero _)⟩
  (cbv; try simp only [wp, (show ∀ n : Nat, _ = n from fun n => wf.2.2.2.2.2.2.2.2.2.2.2.2.2.1 (Int.ofNat n)), (show _ = (0 : Nat) from wf.2.2.2.2.2.2.2.2.2.2.2.2.2.1 0), wpa, (show ∀ n : Nat, _ = n from fun n => wfa.2.2.2.2.2.2.2.2.2.2.2.2.2.1 (Int.ofNat n)), (show _ = (0 : Nat) from wfa.2.2.2.2.2.2.2.2.2.2.2.2.2.1 0), getL, takeL, dropL, TK.isAgg, reduceIte])
  refine ⟨fun e => ?_, fun e => ?_⟩
  · have e : i < n := (by (try simp only [wf, wfa, nc, nc', Int.toNat_natCast, bsz, ByteArray.size_append, List.length_cons, List.length_nil] at *); (try simp (disch := omega) only [w64, w32, wu8] at *); first | done | omega)
    have hpi := hp i e
    have hqi := hQ i e
    (refine Later.mk ?_; cbv; try simp only [wp, (show ∀ n : Nat, _ = n from fun n => wf.2.2.2.2.2.2.2.2.2.2.2.2.2.1 (Int.ofNat n)), (show _ = (0 : Nat) from wf.2.2.2.2.2.2.2.2.2.2.2.2.2.1 0), wpa, (show ∀ n : Nat, _ = n from fun n => wfa.2.2.2.2.2.2.2.2.2.2.2.2.2.1 (Int.ofNat n)), (show _ = (0 : Nat) from wfa.2.2.2.2.2.2.2.2.2.2.2.2.2.1 0), getL, takeL, dropL, TK.isAgg, reduceIte])
    repeat' first | with_reducible refine And.intro ?_ ?_ | intro c9
    all_goals first | exact (by (try simp only [wf, wfa, nc, nc', Int.toNat_natCast, bsz, ByteArray.size_append, List.length_cons, List.length_nil] at *); (try simp (disch := omega) only [w64, w32, wu8] at *); first | done | omega) | trivial | skip
    refine hBk (i + 1) _ (by omega) (by omega) ?_
    (cbv; try simp only [wf, wfa, exD, exL, exT, exB, exA, leLs, leL_d, leL_undef, leL_nils, leA_nils, deq_refl, deq_int, deq_bool, deq_str, and_true, true_and, AObj.iter.injEq, nc, nc']; try simp (disch := omega) only [w64, w32, wu8])
    ((try simp only [wf, wfa, nc, nc', Int.toNat_natCast, bsz, ByteArray.size_append, List.length_cons, List.length_nil] at *); (try simp (disch := omega) only [w64, w32, wu8] at *))
    rw [← hqi]
    exact ⟨by omega, Nat.le_refl _, Nat.zero_le _, fun x j hx hj => .of_eq (app_row2 (g' := lvF V Q) (fun _ _ _ _ => rfl) (fun j hj => by
      match j, hj with
      | 0, _ => rfl
      | 1, _ => rfl) x j hx hj)⟩
  · obtain rfl : i = n := (by (try simp only [wf, wfa, nc, nc', Int.toNat_natCast, bsz, ByteArray.size_append, List.length_cons, List.length_nil] at *); (try simp (disch := omega) only [w64, w32, wu8] at *); first | done | omega)
    (refine Later.mk ?_; cbv; try simp only [wp, (show ∀ n : Nat, _ = n from fun n => wf.2.2.2.2.2.2.2.2.2.2.2.2.2.1 (Int.ofNat n)), (show _ = (0 : Nat) from wf.2.2.2.2.2.2.2.2.2.2.2.2.2.1 0), wpa, (show ∀ n : Nat, _ = n from fun n => wfa.2.2.2.2.2.2.2.2.2.2.2.2.2.1 (Int.ofNat n)), (show _ = (0 : Nat) from wfa.2.2.2.2.2.2.2.2.2.2.2.2.2.1 0), getL, takeL, dropL, TK.isAgg, reduceIte])
    exact hR []
theorem fits (c : Int) (n : Nat) (V P0 : Nat → Int) (hn : n < 2 ^ 20) : VFun (P ()) 93 [lv c n V P0] (LvRes (if c > 1000 ∨ mostL (lst V P0 n) > 1000 ∨ (lst V P0 n).length > 8 then none else some (c, lst V P0 n)) 2) := by
  refine vfunO (Tf := @T) @tabOk [] 400 Tryz.func93 rfl (fun {_} => by kernel_rfl) rfl (Nat.le_of_ble_eq_true rfl) @fun ⟨_, _, _, _, _, _, _, _, _, _, _, _, _, _, _, _, _, _, _, _, _, _, _, _, _, _, _, _, _, _, _, _, _, _, _, _, _, _, wp, wf⟩ R hR => ?_
  cbv
  try simp only [wp, (show ∀ n : Nat, _ = n from fun n => wf.2.2.2.2.2.2.2.2.2.2.2.2.2.1 (Int.ofNat n)), getL, takeL, dropL, TK.isAgg, reduceIte]
  rw [mostF_lst, lst_length] at hR
  obtain ⟨o, ho⟩ : ∃ o, o = (if c > 1000 ∨ mostF P0 n > 1000 ∨ n > 8 then none else some (c, lst V P0 n)) := ⟨_, rfl⟩
  rw [← ho] at hR
  have bad : c > 1000 ∨ mostF P0 n > 1000 ∨ n > 8 → ∀ H, R (.tup [.agg [.d (.int .i64 0), .nils], .d (.int .i64 2)]) H := fun h H => by
    rw [if_pos h] at ho
    exact hR _ H (.tup [lv 0 0 V P0, .d (.int .i64 2)]) (.tup2 (.agg2 (.d _) (.nils _ _)) (.d _)) ⟨0, 0, V, P0, 2, rfl, by decide, fun _ => ⟨rfl, rfl, rfl⟩, fun x hx => by rw [ho] at hx; cases hx⟩
  have good : ¬ (c > 1000 ∨ mostF P0 n > 1000 ∨ n > 8) → ∀ H, R (.tup [lv c n V P0, .d (.int .i64 0)]) H := fun h H => by
    rw [if_neg h] at ho
    exact hR _ H (.tup [lv c n V P0, .d (.int .i64 0)]) (.tup2 (.agg2 (.d _) (.d _)) (.d _)) ⟨c, n, V, P0, 0, rfl, by omega, fun h => (by rw [ho] at h; cases h), fun x hx => by rw [ho] at hx; cases hx; exact ⟨rfl, rfl, rfl⟩⟩
  clear hR ho
  repeat' first | with_reducible refine And.intro ?_ ?_ | intro c9
  all_goals (refine Later.mk ?_; cbv; try simp only [wp, (show ∀ n : Nat, _ = n from fun n => wf.2.2.2.2.2.2.2.2.2.2.2.2.2.1 (Int.ofNat n)), (show _ = (0 : Nat) from wf.2.2.2.2.2.2.2.2.2.2.2.2.2.1 0), getL, takeL, dropL, TK.isAgg, reduceIte])
  · exact bad (.inr (.inr (by (try simp only [wf, nc, nc', Int.toNat_natCast, bsz, ByteArray.size_append, List.length_cons, List.length_nil] at *); (try simp (disch := omega) only [w64, w32, wu8] at *); first | done | omega))) _
  · exact bad (.inl (by (try simp only [wf, nc, nc', Int.toNat_natCast, bsz, ByteArray.size_append, List.length_cons, List.length_nil] at *); (try simp (disch := omega) only [w64, w32, wu8] at *); first | done | omega)) _
  · obtain ⟨mF, hmF⟩ : ∃ f_, f_ = mostF P0 := ⟨_, rfl⟩
    have m0 : mF 0 = -1 := by rw [hmF]; rfl
    have m1 : ∀ i, mF (i + 1) = max (mF i) (P0 i) := fun i => by rw [hmF]; rfl
    have m2 : ∀ i, i < n → P0 i ≤ mF n := fun i hi => by rw [hmF]; exact mostF_le P0 n i hi
    rw [← hmF] at bad good
    have c8 : n ≤ 8 := (by (try simp only [wf, nc, nc', Int.toNat_natCast, bsz, ByteArray.size_append, List.length_cons, List.length_nil] at *); (try simp (disch := omega) only [w64, w32, wu8] at *); first | done | omega)
    have c7 : c ≤ 1000 := (by (try simp only [wf, nc, nc', Int.toNat_natCast, bsz, ByteArray.size_append, List.length_cons, List.length_nil] at *); (try simp (disch := omega) only [w64, w32, wu8] at *); first | done | omega)
    refine loopO (Tf := @T) @tabOk [] 400 (fun i : Nat => ⟨[lv c n V P0, .ptr 0 0, .ptr 1 0, .undef, .d (.int .i64 i), .undef, .undef, .undef, .undef, .undef, .undef, .undef, .undef, .undef, .undef, .undef, .undef, .undef, .undef, .undef, .undef, .undef, .undef, .undef, .undef, .undef, .undef, .undef, .undef, .undef, .undef], [.box [.d (.int .i64 c), .d (.sl n 2 (lvF V P0))], .box [.d (.int .i64 0), .d (.sl 0 2 (lvF V P0))]]⟩) (fun i => n - i) (fun i => i ≤ n ∧ mF i ≤ 1000) 0 ⟨Nat.zero_le _, by omega⟩ (fun {_} => by kernel_rfl) ?_ (fun i => by kernel_rfl) @fun ⟨_, _, _, _, _, _, _, _, _, _, _, _, _, _, _, _, _, _, _, _, _, _, _, _, _, _, _, _, _, _, _, _, _, _, _, _, _, _, wpa, wfa⟩ i Bk hi hBk => ?_
    · ((cbv; try simp only [wf, exD, exL, exT, exB, exA, leLs, leL_d, leL_undef, leL_nils, leA_nils, deq_refl, deq_int, deq_bool, deq_str, and_true, true_and, AObj.iter.injEq, nc, nc']; try simp (disch := omega) only [w64, w32, wu8]); first | done | rfl | omega | (simp; done) | (simp; omega) | skip)
    (cbv; try simp only [wp, (show ∀ n : Nat, _ = n from fun n => wf.2.2.2.2.2.2.2.2.2.2.2.2.2.1 (Int.ofNat n)), (show _ = (0 : Nat) from wf.2.2.2.2.2.2.2.2.2.2.2.2.2.1 0), wpa, (show ∀ n : Nat, _ = n from fun n => wfa.2.2.2.2.2.2.2.2.2.2.2.2.2.1 (Int.ofNat n)), (show _ = (0 : Nat) from wfa.2.2.2.2.2.2.2.2.2.2.2.2.2.1 0), getL, takeL, dropL, TK.isAgg, reduceIte])
    obtain ⟨i1, i2⟩ := hi
    refine ⟨fun e => ?_, fun e => ?_⟩
    · have e : i < n := (by (try simp only [wf, wfa, nc, nc', Int.toNat_natCast, bsz, ByteArray.size_append, List.length_cons, List.length_nil] at *); (try simp (disch := omega) only [w64, w32, wu8] at *); first | done | omega)
      have := m1 i
      have := m2 i e
      (refine Later.mk ?_; cbv; try simp only [wp, (show ∀ n : Nat, _ = n from fun n => wf.2.2.2.2.2.2.2.2.2.2.2.2.2.1 (Int.ofNat n)), (show _ = (0 : Nat) from wf.2.2.2.2.2.2.2.2.2.2.2.2.2.1 0), wpa, (show ∀ n : Nat, _ = n from fun n => wfa.2.2.2.2.2.2.2.2.2.2.2.2.2.1 (Int.ofNat n)), (show _ = (0 : Nat) from wfa.2.2.2.2.2.2.2.2.2.2.2.2.2.1 0), getL, takeL, dropL, TK.isAgg, reduceIte])
      repeat' first | with_reducible refine And.intro ?_ ?_ | intro c9
      all_goals first | exact (by (try simp only [wf, wfa, nc, nc', Int.toNat_natCast, bsz, ByteArray.size_append, List.length_cons, List.length_nil] at *); (try simp (disch := omega) only [w64, w32, wu8] at *); first | done | omega) | trivial | skip
      · (refine Later.mk ?_; cbv; try simp only [wp, (show ∀ n : Nat, _ = n from fun n => wf.2.2.2.2.2.2.2.2.2.2.2.2.2.1 (Int.ofNat n)), (show _ = (0 : Nat) from wf.2.2.2.2.2.2.2.2.2.2.2.2.2.1 0), wpa, (show ∀ n : Nat, _ = n from fun n => wfa.2.2.2.2.2.2.2.2.2.2.2.2.2.1 (Int.ofNat n)), (show _ = (0 : Nat) from wfa.2.2.2.2.2.2.2.2.2.2.2.2.2.1 0), getL, takeL, dropL, TK.isAgg, reduceIte])
        exact bad (.inr (.inl (by (try simp only [wf, wfa, nc, nc', Int.toNat_natCast, bsz, ByteArray.size_append, List.length_cons, List.length_nil] at *); (try simp (disch := omega) only [w64, w32, wu8] at *); first | done | omega))) _
      · (refine Later.mk ?_; cbv; try simp only [wp, (show ∀ n : Nat, _ = n from fun n => wf.2.2.2.2.2.2.2.2.2.2.2.2.2.1 (Int.ofNat n)), (show _ = (0 : Nat) from wf.2.2.2.2.2.2.2.2.2.2.2.2.2.1 0), wpa, (show ∀ n : Nat, _ = n from fun n => wfa.2.2.2.2.2.2.2.2.2.2.2.2.2.1 (Int.ofNat n)), (show _ = (0 : Nat) from wfa.2.2.2.2.2.2.2.2.2.2.2.2.2.1 0), getL, takeL, dropL, TK.isAgg, reduceIte])
        refine hBk (i + 1) _ (by omega) ⟨by omega, (by (try simp only [wf, wfa, nc, nc', Int.toNat_natCast, bsz, ByteArray.size_append, List.length_cons, List.length_nil] at *); (try simp (disch := omega) only [w64, w32, wu8] at *); first | done | omega)⟩ ?_
        ((cbv; try simp only [wf, wfa, exD, exL, exT, exB, exA, leLs, leL_d, leL_undef, leL_nils, leA_nils, deq_refl, deq_int, deq_bool, deq_str, and_true, true_and, AObj.iter.injEq, nc, nc']; try simp (disch := omega) only [w64, w32, wu8]); first | done | rfl | omega | (simp; done) | (simp; omega) | skip)
    · obtain rfl : i = n := (by (try simp only [wf, wfa, nc, nc', Int.toNat_natCast, bsz, ByteArray.size_append, List.length_cons, List.length_nil] at *); (try simp (disch := omega) only [w64, w32, wu8] at *); first | done | omega)
      (refine Later.mk ?_; cbv; try simp only [wp, (show ∀ n : Nat, _ = n from fun n => wf.2.2.2.2.2.2.2.2.2.2.2.2.2.1 (Int.ofNat n)), (show _ = (0 : Nat) from wf.2.2.2.2.2.2.2.2.2.2.2.2.2.1 0), wpa, (show ∀ n : Nat, _ = n from fun n => wfa.2.2.2.2.2.2.2.2.2.2.2.2.2.1 (Int.ofNat n)), (show _ = (0 : Nat) from wfa.2.2.2.2.2.2.2.2.2.2.2.2.2.1 0), getL, takeL, dropL, TK.isAgg, reduceIte])
      exact good (by omega) _
theorem rcanonical (c : Int) (n : Nat) (V P0 : Nat → Int) (hn : n < 2 ^ 19) (hc : 0 ≤ c) : VFun (P ()) 94 [.d (.int .i64 c), .d (.sl n 2 (lvF V P0))]
    (fun r => ∃ c' m V' P', lst V' P' m = putsL [] (lst V P0 n) ∧ m ≤ n ∧ c' = (if c ≤ mostL (putsL [] (lst V P0 n)) then 0 else c) ∧ r = lv c' m V' P') := by
  refine vfunO (Tf := @T) @tabOk [(6, upF 0 9), (10, upF 0 9)] 400 Tryz.func94 rfl (fun {_} => by kernel_rfl) rfl (Nat.le_of_ble_eq_true rfl) @fun ⟨_, _, _, _, _, _, _, _, _, _, _, _, _, _, _, _, _, _, _, _, _, _, _, _, _, _, _, _, _, _, _, _, _, _, _, _, _, _, wp, wf⟩ R hR => ?_
  cbv
  try simp only [wp, (show ∀ n : Nat, _ = n from fun n => wf.2.2.2.2.2.2.2.2.2.2.2.2.2.1 (Int.ofNat n)), getL, takeL, dropL, TK.isAgg, reduceIte]
  refine loopO (Tf := @T) @tabOk [(6, upF 0 9), (10, upF 0 9)] 400 (fun y : Sy × Nat => ⟨[.undef, .d (.sl n 2 (lvF V P0)), .undef, .undef, .ptr 0 0, .ptr 1 0, .d (.int .i64 y.1.i), .undef, .undef, .undef, .undef, .undef, .undef, .undef, .undef, .undef, .undef, .undef, .undef, .undef, .undef, .undef, .undef, .undef, .undef, .undef, .undef, .undef, .undef, .undef, .undef, .undef, .undef, .undef, .undef, .undef, .undef, .undef, .undef, .undef, .undef, .undef], [.box [.d (.int .i64 0), .d (.sl 0 2 (lvF V P0))], .box [.d (.int .i64 c), .d (.sl y.2 2 (lvF y.1.V y.1.P))]]⟩) (fun y => n - y.1.i) (fun y => y.1.i ≤ n ∧ y.2 ≤ y.1.i ∧ lst y.1.V y.1.P y.2 = putsL [] (lst V P0 y.1.i)) (⟨0, V, P0⟩, 0) ⟨Nat.zero_le _, Nat.le_refl _, rfl⟩ (fun {_} => by kernel_rfl) ?_ (fun i => by kernel_rfl) @fun ⟨_, _, _, _, _, _, _, _, _, _, _, _, _, _, _, _, _, _, _, _, _, _, _, _, _, _, _, _, _, _, _, _, _, _, _, _, _, _, wpa, wfa⟩ ⟨⟨i, V1, P1⟩, m⟩ Bk hi hBk => ?_
  · ((cbv; try simp only [wf, exD, exL, exT, exB, exA, leLs, leL_d, leL_undef, leL_nils, leA_nils, deq_refl, deq_int, deq_bool, deq_str, and_true, true_and, AObj.iter.injEq, nc, nc']; try simp (disch := omega) only [w64, w32, wu8]); first | done | rfl | omega | (simp; done) | (simp; omega) | skip)
  obtain ⟨i1, i2, i3⟩ := hi
  dsimp only at i1 i2 i3
  (cbv; try simp only [wp, (show ∀ n : Nat, _ = n from fun n => wf.2.2.2.2.2.2.2.2.2.2.2.2.2.1 (Int.ofNat n)), (show _ = (0 : Nat) from wf.2.2.2.2.2.2.2.2.2.2.2.2.2.1 0), wpa, (show ∀ n : Nat, _ = n from fun n => wfa.2.2.2.2.2.2.2.2.2.2.2.2.2.1 (Int.ofNat n)), (show _ = (0 : Nat) from wfa.2.2.2.2.2.2.2.2.2.2.2.2.2.1 0), getL, takeL, dropL, TK.isAgg, reduceIte])
  refine ⟨fun e => ?_, fun e => ?_⟩
  · have e : i < n := (by (try simp only [wf, wfa, nc, nc', Int.toNat_natCast, bsz, ByteArray.size_append, List.length_cons, List.length_nil] at *); (try simp (disch := omega) only [w64, w32, wu8] at *); first | done | omega)
    (refine Later.mk ?_; cbv; try simp only [wp, (show ∀ n : Nat, _ = n from fun n => wf.2.2.2.2.2.2.2.2.2.2.2.2.2.1 (Int.ofNat n)), (show _ = (0 : Nat) from wf.2.2.2.2.2.2.2.2.2.2.2.2.2.1 0), wpa, (show ∀ n : Nat, _ = n from fun n => wfa.2.2.2.2.2.2.2.2.2.2.2.2.2.1 (Int.ofNat n)), (show _ = (0 : Nat) from wfa.2.2.2.2.2.2.2.2.2.2.2.2.2.1 0), getL, takeL, dropL, TK.isAgg, reduceIte])
    repeat' first | with_reducible refine And.intro ?_ ?_ | intro c9
    all_goals first | exact (by (try simp only [wf, wfa, nc, nc', Int.toNat_natCast, bsz, ByteArray.size_append, List.length_cons, List.length_nil] at *); (try simp (disch := omega) only [w64, w32, wu8] at *); first | done | omega) | trivial | skip
    have hasc : asc (lst V1 P1 m) := by rw [i3]; exact putsL_asc (by simp [asc])
    refine (rput m V1 P1 (V i) (P0 i) (by omega) (asc_dist hasc)).call ?_
    rintro _ ⟨m2, V2, P2, h1, h2, rfl⟩
    (cbv; try simp only [wp, (show ∀ n : Nat, _ = n from fun n => wf.2.2.2.2.2.2.2.2.2.2.2.2.2.1 (Int.ofNat n)), (show _ = (0 : Nat) from wf.2.2.2.2.2.2.2.2.2.2.2.2.2.1 0), wpa, (show ∀ n : Nat, _ = n from fun n => wfa.2.2.2.2.2.2.2.2.2.2.2.2.2.1 (Int.ofNat n)), (show _ = (0 : Nat) from wfa.2.2.2.2.2.2.2.2.2.2.2.2.2.1 0), getL, takeL, dropL, TK.isAgg, reduceIte])
    refine hBk (⟨i + 1, V2, P2⟩, m2) _ (by dsimp only; omega) ⟨by dsimp only; omega, by dsimp only; omega, by dsimp only; rw [lst, putsL_snoc, h1, i3]⟩ ?_
    ((cbv; try simp only [wf, wfa, exD, exL, exT, exB, exA, leLs, leL_d, leL_undef, leL_nils, leA_nils, deq_refl, deq_int, deq_bool, deq_str, and_true, true_and, AObj.iter.injEq, nc, nc']; try simp (disch := omega) only [w64, w32, wu8]); first | done | rfl | omega | (simp; done) | (simp; omega) | skip)
  · obtain rfl : i = n := (by (try simp only [wf, wfa, nc, nc', Int.toNat_natCast, bsz, ByteArray.size_append, List.length_cons, List.length_nil] at *); (try simp (disch := omega) only [w64, w32, wu8] at *); first | done | omega)
    (refine Later.mk ?_; cbv; try simp only [wp, (show ∀ n : Nat, _ = n from fun n => wf.2.2.2.2.2.2.2.2.2.2.2.2.2.1 (Int.ofNat n)), (show _ = (0 : Nat) from wf.2.2.2.2.2.2.2.2.2.2.2.2.2.1 0), wpa, (show ∀ n : Nat, _ = n from fun n => wfa.2.2.2.2.2.2.2.2.2.2.2.2.2.1 (Int.ofNat n)), (show _ = (0 : Nat) from wfa.2.2.2.2.2.2.2.2.2.2.2.2.2.1 0), getL, takeL, dropL, TK.isAgg, reduceIte])
    rw [← i3, mostF_lst] at hR
    replace hR := fun c' H r h1 hf => hR r H (lv c' m V1 P1) hf ⟨c', m, V1, P1, rfl, i2, h1, rfl⟩
    obtain ⟨cF, hcF⟩ : ∃ f_, f_ = fun j => if c ≤ mostF P1 j then 0 else c := ⟨_, rfl⟩
    have c0 : cF 0 = c := by rw [hcF]; show (if c ≤ -1 then 0 else c) = c; rw [if_neg (by omega)]
    have c1 : ∀ j, cF (j + 1) = if P1 j ≥ cF j then 0 else cF j := fun j => by
      rw [hcF]
      show (if c ≤ max (mostF P1 j) (P1 j) then 0 else c) = if P1 j ≥ (if c ≤ mostF P1 j then 0 else c) then 0 else (if c ≤ mostF P1 j then 0 else c)
      by_cases h : c ≤ mostF P1 j
      · rw [if_pos h, if_pos (by omega)]; split <;> rfl
      · rw [if_neg h]
        by_cases h2 : P1 j ≥ c
        · rw [if_pos h2, if_pos (by omega)]
        · rw [if_neg h2, if_neg (by omega)]
    have cn : (if c ≤ mostF P1 m then 0 else c) = cF m := by rw [hcF]
    rw [cn] at hR
    clear hcF cn
    refine loopO (Tf := @T) @tabOk [(6, upF 0 9), (10, upF 0 9)] 400 (fun j : Nat => ⟨[.undef, .undef, .undef, .undef, .ptr 0 0, .ptr 1 0, .undef, .d (.int .i64 j), .undef, .undef, .undef, .undef, .undef, .undef, .undef, .undef, .undef, .undef, .undef, .undef, .undef, .undef, .undef, .undef, .undef, .undef, .undef, .undef, .undef, .undef, .undef, .undef, .undef, .undef, .undef, .undef, .undef, .undef, .undef, .undef, .undef, .undef], [.box [.d (.int .i64 0), .d (.sl 0 2 (lvF V P0))], .box [.d (.int .i64 (cF j)), .d (.sl m 2 (lvF V1 P1))]]⟩) (fun j => m - j) (fun j => j ≤ m) 0 (Nat.zero_le _) (fun {_} => by kernel_rfl) ?_ (fun i => by kernel_rfl) @fun ⟨_, _, _, _, _, _, _, _, _, _, _, _, _, _, _, _, _, _, _, _, _, _, _, _, _, _, _, _, _, _, _, _, _, _, _, _, _, _, wpb, wfb⟩ j Bk2 hj hBk2 => ?_
    · (cbv; try simp only [wf, wfa, exD, exL, exT, exB, exA, leLs, leL_d, leL_undef, leL_nils, leA_nils, deq_refl, deq_int, deq_bool, deq_str, and_true, true_and, AObj.iter.injEq, nc, nc']; try simp (disch := omega) only [w64, w32, wu8])
      exact ⟨rfl, c0.symm⟩
    have c1 := c1 j
    (cbv; try simp only [wp, (show ∀ n : Nat, _ = n from fun n => wf.2.2.2.2.2.2.2.2.2.2.2.2.2.1 (Int.ofNat n)), (show _ = (0 : Nat) from wf.2.2.2.2.2.2.2.2.2.2.2.2.2.1 0), wpa, (show ∀ n : Nat, _ = n from fun n => wfa.2.2.2.2.2.2.2.2.2.2.2.2.2.1 (Int.ofNat n)), (show _ = (0 : Nat) from wfa.2.2.2.2.2.2.2.2.2.2.2.2.2.1 0), wpb, (show ∀ n : Nat, _ = n from fun n => wfb.2.2.2.2.2.2.2.2.2.2.2.2.2.1 (Int.ofNat n)), (show _ = (0 : Nat) from wfb.2.2.2.2.2.2.2.2.2.2.2.2.2.1 0), getL, takeL, dropL, TK.isAgg, reduceIte])
    refine ⟨fun e => ?_, fun e => ?_⟩
    · have e : j < m := (by (try simp only [wf, wfa, wfb, nc, nc', Int.toNat_natCast, bsz, ByteArray.size_append, List.length_cons, List.length_nil] at *); (try simp (disch := omega) only [w64, w32, wu8] at *); first | done | omega)
      (refine Later.mk ?_; cbv; try simp only [wp, (show ∀ n : Nat, _ = n from fun n => wf.2.2.2.2.2.2.2.2.2.2.2.2.2.1 (Int.ofNat n)), (show _ = (0 : Nat) from wf.2.2.2.2.2.2.2.2.2.2.2.2.2.1 0), wpa, (show ∀ n : Nat, _ = n from fun n => wfa.2.2.2.2.2.2.2.2.2.2.2.2.2.1 (Int.ofNat n)), (show _ = (0 : Nat) from wfa.2.2.2.2.2.2.2.2.2.2.2.2.2.1 0), wpb, (show ∀ n : Nat, _ = n from fun n => wfb.2.2.2.2.2.2.2.2.2.2.2.2.2.1 (Int.ofNat n)), (show _ = (0 : Nat) from wfb.2.2.2.2.2.2.2.2.2.2.2.2.2.1 0), getL, takeL, dropL, TK.isAgg, reduceIte])
      repeat' first | with_reducible refine And.intro ?_ ?_ | intro c9
      all_goals first | exact (by (try simp only [wf, wfa, wfb, nc, nc', Int.toNat_natCast, bsz, ByteArray.size_append, List.length_cons, List.length_nil] at *); (try simp (disch := omega) only [w64, w32, wu8] at *); first | done | omega) | trivial | skip
      · (refine Later.mk ?_; cbv; try simp only [wp, (show ∀ n : Nat, _ = n from fun n => wf.2.2.2.2.2.2.2.2.2.2.2.2.2.1 (Int.ofNat n)), (show _ = (0 : Nat) from wf.2.2.2.2.2.2.2.2.2.2.2.2.2.1 0), wpa, (show ∀ n : Nat, _ = n from fun n => wfa.2.2.2.2.2.2.2.2.2.2.2.2.2.1 (Int.ofNat n)), (show _ = (0 : Nat) from wfa.2.2.2.2.2.2.2.2.2.2.2.2.2.1 0), wpb, (show ∀ n : Nat, _ = n from fun n => wfb.2.2.2.2.2.2.2.2.2.2.2.2.2.1 (Int.ofNat n)), (show _ = (0 : Nat) from wfb.2.2.2.2.2.2.2.2.2.2.2.2.2.1 0), getL, takeL, dropL, TK.isAgg, reduceIte])
        rw [if_pos (by assumption)] at c1
        refine hBk2 (j + 1) _ (by omega) (by omega) ?_
        (cbv; try simp only [wf, wfa, wfb, exD, exL, exT, exB, exA, leLs, leL_d, leL_undef, leL_nils, leA_nils, deq_refl, deq_int, deq_bool, deq_str, and_true, true_and, AObj.iter.injEq, nc, nc']; try simp (disch := omega) only [w64, w32, wu8])
        ((try simp only [wf, wfa, wfb, nc, nc', Int.toNat_natCast, bsz, ByteArray.size_append, List.length_cons, List.length_nil] at *); (try simp (disch := omega) only [w64, w32, wu8] at *))
        exact ⟨by omega, c1.symm⟩
      · (refine Later.mk ?_; cbv; try simp only [wp, (show ∀ n : Nat, _ = n from fun n => wf.2.2.2.2.2.2.2.2.2.2.2.2.2.1 (Int.ofNat n)), (show _ = (0 : Nat) from wf.2.2.2.2.2.2.2.2.2.2.2.2.2.1 0), wpa, (show ∀ n : Nat, _ = n from fun n => wfa.2.2.2.2.2.2.2.2.2.2.2.2.2.1 (Int.ofNat n)), (show _ = (0 : Nat) from wfa.2.2.2.2.2.2.2.2.2.2.2.2.2.1 0), wpb, (show ∀ n : Nat, _ = n from fun n => wfb.2.2.2.2.2.2.2.2.2.2.2.2.2.1 (Int.ofNat n)), (show _ = (0 : Nat) from wfb.2.2.2.2.2.2.2.2.2.2.2.2.2.1 0), getL, takeL, dropL, TK.isAgg, reduceIte])
        rw [if_neg (by omega)] at c1
        refine hBk2 (j + 1) _ (by omega) (by omega) ?_
        (cbv; try simp only [wf, wfa, wfb, exD, exL, exT, exB, exA, leLs, leL_d, leL_undef, leL_nils, leA_nils, deq_refl, deq_int, deq_bool, deq_str, and_true, true_and, AObj.iter.injEq, nc, nc']; try simp (disch := omega) only [w64, w32, wu8])
        ((try simp only [wf, wfa, wfb, nc, nc', Int.toNat_natCast, bsz, ByteArray.size_append, List.length_cons, List.length_nil] at *); (try simp (disch := omega) only [w64, w32, wu8] at *))
        exact ⟨by omega, c1.symm⟩
    · obtain rfl : j = m := (by (try simp only [wf, wfa, wfb, nc, nc', Int.toNat_natCast, bsz, ByteArray.size_append, List.length_cons, List.length_nil] at *); (try simp (disch := omega) only [w64, w32, wu8] at *); first | done | omega)
      (refine Later.mk ?_; cbv; try simp only [wp, (show ∀ n : Nat, _ = n from fun n => wf.2.2.2.2.2.2.2.2.2.2.2.2.2.1 (Int.ofNat n)), (show _ = (0 : Nat) from wf.2.2.2.2.2.2.2.2.2.2.2.2.2.1 0), wpa, (show ∀ n : Nat, _ = n from fun n => wfa.2.2.2.2.2.2.2.2.2.2.2.2.2.1 (Int.ofNat n)), (show _ = (0 : Nat) from wfa.2.2.2.2.2.2.2.2.2.2.2.2.2.1 0), wpb, (show ∀ n : Nat, _ = n from fun n => wfb.2.2.2.2.2.2.2.2.2.2.2.2.2.1 (Int.ofNat n)), (show _ = (0 : Nat) from wfb.2.2.2.2.2.2.2.2.2.2.2.2.2.1 0), getL, takeL, dropL, TK.isAgg, reduceIte])
      repeat' first | trivial | with_reducible refine And.intro ?_ ?_ | intro c9
      all_goals exact hR _ _ _ rfl (.agg2 (.d _) (.d _))
end Go.VM

namespace Go.VM
open Go.Proofs Go
set_option maxRecDepth 100000
set_option linter.unusedVariables false
set_option linter.unusedSimpArgs false
/-- the canonical form of a number and of parts of which the greatest numbers are told -/
def CanR (c : Int) (f : Int → Option Int) (r : A) : Prop := ∃ q, asc q ∧ (∀ v, mx q v = f v) ∧ LvRes (canonL c q) 2 r
theorem CanR.puts {c : Int} {l : List Pt} {r : A} (h : LvRes (canonL c (putsL [] l)) 2 r) : CanR c (mx l) r :=
  ⟨_, putsL_asc (by simp [asc]), fun v => by rw [mx_putsL (by simp [asc])]; rfl, h⟩
theorem canon_fits (c : Int) (q : List Pt) : canonL c q = if (if c ≤ mostL q then 0 else c) > 1000 ∨ mostL q > 1000 ∨ q.length > 8 then none else some ((if c ≤ mostL q then 0 else c), q) := rfl
/-- fits behind canonical -/
theorem rcf {c c' : Int} {m : Nat} {V' P' : Nat → Int} {l : List Pt} {r : A} (h1 : lst V' P' m = putsL [] l) (h2 : c' = if c ≤ mostL (putsL [] l) then 0 else c)
    (h : LvRes (if c' > 1000 ∨ mostL (lst V' P' m) > 1000 ∨ (lst V' P' m).length > 8 then none else some (c', lst V' P' m)) 2 r) : CanR c (mx l) r := by
  refine .puts ?_
  rw [canon_fits, ← h2, ← h1]
  exact h
theorem LvRes.frz {o : Option (Int × List Pt)} {e : Int} {r : A} (h : LvRes o e r) (H : AHeap) : Frz H r r := by
  obtain ⟨c, n, V, P, e, rfl, _⟩ := h
  exact .tup2 (.agg2 (.d _) (.d _)) (.d _)
theorem CanR.frz {c : Int} {f : Int → Option Int} {r : A} (h : CanR c f r) (H : AHeap) : Frz H r r := by
  obtain ⟨q, _, _, h⟩ := h; exact h.frz H
theorem LvRes.err : ∀ e : Int, LvRes none e (.tup [lv 0 0 (fun _ => 0) (fun _ => 0), .d (.int .i64 e)]) := fun e => ⟨0, 0, _, _, e, rfl, by decide, fun _ => ⟨rfl, rfl, rfl⟩, fun x hx => by cases hx⟩
theorem frz_err (e : Int) (H : AHeap) : Frz H (.tup [.agg [.d (.int .i64 0), .nils], .d (.int .i64 e)]) (.tup [lv 0 0 (fun _ => 0) (fun _ => 0), .d (.int .i64 e)]) := .tup2 (.agg2 (.d _) (.nils _ _)) (.d _)
/-- what an operation on levels returns -/
def OpR (ok : Prop) (c : Int) (f : Int → Option Int) (r : A) : Prop := (¬ ok ∧ LvRes none 4 r) ∨ (ok ∧ CanR c f r)
theorem OpR.frz {ok : Prop} {c : Int} {f : Int → Option Int} {r : A} (h : OpR ok c f r) (H : AHeap) : Frz H r r := by
  rcases h with ⟨_, h⟩ | ⟨_, h⟩ <;> exact h.frz H
theorem NormR.op {c : Int} {n : Nat} {V P0 : Nat → Int} {r : A} (h : NormR c n V P0 r) : OpR (ValidP c n V P0) c (mx (lst V P0 n)) r := by
  rcases h with h | ⟨v, q, h1, h2, h3⟩
  · exact .inl h
  · exact .inr ⟨v, q, h1, mx_perm h2, h3⟩
theorem RNormal (c : Int) (n : Nat) (V P0 : Nat → Int) (hn : n < 2 ^ 63) : VFun (P ()) 130 [lv c n V P0] (OpR (ValidP c n V P0) c (mx (lst V P0 n))) := by
  refine vfunO (Tf := @T) @tabOk [] 400 Tryz.func130 rfl (fun {_} => by kernel_rfl) rfl (Nat.le_of_ble_eq_true rfl) @fun ⟨_, _, _, _, _, _, _, _, _, _, _, _, _, _, _, _, _, _, _, _, _, _, _, _, _, _, _, _, _, _, _, _, _, _, _, _, _, _, wp, wf⟩ R hR => ?_
  cbv
  try simp only [wp, (show ∀ n : Nat, _ = n from fun n => wf.2.2.2.2.2.2.2.2.2.2.2.2.2.1 (Int.ofNat n)), getL, takeL, dropL, TK.isAgg, reduceIte]
  refine (RValid c n V P0 hn).call ?_
  rintro _ ⟨b, hb, rfl⟩
  rcases hb.dich with ⟨rfl, v⟩ | ⟨rfl, v⟩ <;> clear hb <;> (cbv; try simp only [wp, (show ∀ n : Nat, _ = n from fun n => wf.2.2.2.2.2.2.2.2.2.2.2.2.2.1 (Int.ofNat n)), (show _ = (0 : Nat) from wf.2.2.2.2.2.2.2.2.2.2.2.2.2.1 0), getL, takeL, dropL, TK.isAgg, reduceIte]) <;> (refine Later.mk ?_; cbv; try simp only [wp, (show ∀ n : Nat, _ = n from fun n => wf.2.2.2.2.2.2.2.2.2.2.2.2.2.1 (Int.ofNat n)), (show _ = (0 : Nat) from wf.2.2.2.2.2.2.2.2.2.2.2.2.2.1 0), getL, takeL, dropL, TK.isAgg, reduceIte])
  · have h8 := v.2.2.1
    repeat' first | trivial | with_reducible refine And.intro ?_ ?_ | intro c9
    all_goals
      refine (rcanonical c n V P0 (by omega) v.1).call ?_
      rintro _ ⟨c', m, V', P', h1, h2, h3, rfl⟩
      (cbv; try simp only [wp, (show ∀ n : Nat, _ = n from fun n => wf.2.2.2.2.2.2.2.2.2.2.2.2.2.1 (Int.ofNat n)), (show _ = (0 : Nat) from wf.2.2.2.2.2.2.2.2.2.2.2.2.2.1 0), getL, takeL, dropL, TK.isAgg, reduceIte])
      repeat' first | trivial | with_reducible refine And.intro ?_ ?_ | intro c9
    all_goals
      refine (fits c' m V' P' (by omega)).call ?_
      intro r hr
      have ⟨c2, n2, V2, P2, e2, e, _⟩ := hr
      subst e
      (cbv; try simp only [wp, (show ∀ n : Nat, _ = n from fun n => wf.2.2.2.2.2.2.2.2.2.2.2.2.2.1 (Int.ofNat n)), (show _ = (0 : Nat) from wf.2.2.2.2.2.2.2.2.2.2.2.2.2.1 0), getL, takeL, dropL, TK.isAgg, reduceIte])
      repeat' first | trivial | with_reducible refine And.intro ?_ ?_ | intro c9
    all_goals exact hR _ _ _ (hr.frz _) (.inr ⟨v, rcf h1 h3 hr⟩)
  · exact hR _ _ _ (frz_err 4 _) (.inl ⟨v, .err 4⟩)
theorem lst_inj {V P0 V' P' : Nat → Int} {n : Nat} (h : lst V P0 n = lst V' P' n) (i : Nat) (hi : i < n) : V i = V' i ∧ P0 i = P' i := by
  have h1 := lst_get V P0 hi
  rw [h, lst_get V' P' hi] at h1
  have h2 := Option.some.inj h1
  exact ⟨(congrArg Prod.fst h2).symm, (congrArg Prod.snd h2).symm⟩
theorem EqLevel (c c' : Int) (n n' : Nat) (V P0 V' P' : Nat → Int) (hn : n < 2 ^ 62) (hn' : n' < 2 ^ 62) : VFun (P ()) 77 [lv c n V P0, lv c' n' V' P'] (fun r => ∃ b : Bool, (b = true ↔ c = c' ∧ lst V P0 n = lst V' P' n') ∧ r = .d (.bool b)) := by
  refine vfunO (Tf := @T) @tabOk [(6, upF 0 11)] 400 Tryz.func77 rfl (fun {_} => by kernel_rfl) rfl (Nat.le_of_ble_eq_true rfl) @fun ⟨_, _, _, _, _, _, _, _, _, _, _, _, _, _, _, _, _, _, _, _, _, _, _, _, _, _, _, _, _, _, _, _, _, _, _, _, _, _, wp, wf⟩ R hR => ?_
  cbv
  try simp only [wp, (show ∀ n : Nat, _ = n from fun n => wf.2.2.2.2.2.2.2.2.2.2.2.2.2.1 (Int.ofNat n)), getL, takeL, dropL, TK.isAgg, reduceIte]
  replace hR := fun b H h => hR _ H _ (.d (.bool b)) ⟨b, h, rfl⟩
  repeat' first | with_reducible refine And.intro ?_ ?_ | intro c9
  all_goals (refine Later.mk ?_; cbv; try simp only [wp, (show ∀ n : Nat, _ = n from fun n => wf.2.2.2.2.2.2.2.2.2.2.2.2.2.1 (Int.ofNat n)), (show _ = (0 : Nat) from wf.2.2.2.2.2.2.2.2.2.2.2.2.2.1 0), getL, takeL, dropL, TK.isAgg, reduceIte])
  · exact hR _ _ (iffF fun h => c9 h.1)
  · exact hR _ _ (iffF fun h => (by have := congrArg List.length h.2; rw [lst_length, lst_length] at this; have c9 : ¬ n = n' := (by (try simp only [wf, nc, nc', Int.toNat_natCast, bsz, ByteArray.size_append, List.length_cons, List.length_nil] at *); (try simp (disch := omega) only [w64, w32, wu8] at *); first | done | omega); exact c9 this))
  · obtain rfl : n = n' := (by (try simp only [wf, nc, nc', Int.toNat_natCast, bsz, ByteArray.size_append, List.length_cons, List.length_nil] at *); (try simp (disch := omega) only [w64, w32, wu8] at *); first | done | omega)
    obtain rfl : c = c' := by assumption
    refine loopO (Tf := @T) @tabOk [(6, upF 0 11)] 400 (fun i : Nat => ⟨[.undef, .undef, .ptr 0 0, .ptr 1 0, .undef, .d (.int .i64 i), .undef, .undef, .undef, .undef, .undef, .undef, .undef, .undef, .undef, .undef, .undef, .undef, .undef, .undef, .undef, .undef, .undef, .undef, .undef, .undef, .undef, .undef, .undef, .undef, .undef, .undef, .undef, .undef, .undef, .undef, .undef, .undef], [.box [.d (.int .i64 c), .d (.sl n 2 (lvF V P0))], .box [.d (.int .i64 c), .d (.sl n 2 (lvF V' P'))]]⟩) (fun i => n - i) (fun i => i ≤ n ∧ ∀ k, k < i → V k = V' k ∧ P0 k = P' k) 0 ⟨Nat.zero_le _, fun k hk => absurd hk (Nat.not_lt_zero _)⟩ (fun {_} => by kernel_rfl) ?_ (fun i => by kernel_rfl) @fun ⟨_, _, _, _, _, _, _, _, _, _, _, _, _, _, _, _, _, _, _, _, _, _, _, _, _, _, _, _, _, _, _, _, _, _, _, _, _, _, wpa, wfa⟩ i Bk hi hBk => ?_
    · ((cbv; try simp only [wf, exD, exL, exT, exB, exA, leLs, leL_d, leL_undef, leL_nils, leA_nils, deq_refl, deq_int, deq_bool, deq_str, and_true, true_and, AObj.iter.injEq, nc, nc']; try simp (disch := omega) only [w64, w32, wu8]); first | done | rfl | omega | (simp; done) | (simp; omega) | skip)
    (cbv; try simp only [wp, (show ∀ n : Nat, _ = n from fun n => wf.2.2.2.2.2.2.2.2.2.2.2.2.2.1 (Int.ofNat n)), (show _ = (0 : Nat) from wf.2.2.2.2.2.2.2.2.2.2.2.2.2.1 0), wpa, (show ∀ n : Nat, _ = n from fun n => wfa.2.2.2.2.2.2.2.2.2.2.2.2.2.1 (Int.ofNat n)), (show _ = (0 : Nat) from wfa.2.2.2.2.2.2.2.2.2.2.2.2.2.1 0), getL, takeL, dropL, TK.isAgg, reduceIte])
    obtain ⟨i1, i2⟩ := hi
    refine ⟨fun e => ?_, fun e => ?_⟩
    · have e : i < n := (by (try simp only [wf, wfa, nc, nc', Int.toNat_natCast, bsz, ByteArray.size_append, List.length_cons, List.length_nil] at *); (try simp (disch := omega) only [w64, w32, wu8] at *); first | done | omega)
      (refine Later.mk ?_; cbv; try simp only [wp, (show ∀ n : Nat, _ = n from fun n => wf.2.2.2.2.2.2.2.2.2.2.2.2.2.1 (Int.ofNat n)), (show _ = (0 : Nat) from wf.2.2.2.2.2.2.2.2.2.2.2.2.2.1 0), wpa, (show ∀ n : Nat, _ = n from fun n => wfa.2.2.2.2.2.2.2.2.2.2.2.2.2.1 (Int.ofNat n)), (show _ = (0 : Nat) from wfa.2.2.2.2.2.2.2.2.2.2.2.2.2.1 0), getL, takeL, dropL, TK.isAgg, reduceIte])
      repeat' first | with_reducible refine And.intro ?_ ?_ | intro c9
      all_goals first | exact (by (try simp only [wf, wfa, nc, nc', Int.toNat_natCast, bsz, ByteArray.size_append, List.length_cons, List.length_nil] at *); (try simp (disch := omega) only [w64, w32, wu8] at *); first | done | omega) | trivial | skip
      · (refine Later.mk ?_; cbv; try simp only [wp, (show ∀ n : Nat, _ = n from fun n => wf.2.2.2.2.2.2.2.2.2.2.2.2.2.1 (Int.ofNat n)), (show _ = (0 : Nat) from wf.2.2.2.2.2.2.2.2.2.2.2.2.2.1 0), wpa, (show ∀ n : Nat, _ = n from fun n => wfa.2.2.2.2.2.2.2.2.2.2.2.2.2.1 (Int.ofNat n)), (show _ = (0 : Nat) from wfa.2.2.2.2.2.2.2.2.2.2.2.2.2.1 0), getL, takeL, dropL, TK.isAgg, reduceIte])
        refine hBk (i + 1) _ (by omega) ⟨by omega, fun k hk => ?_⟩ ?_
        · by_cases e2 : k = i
          · subst e2; exact c9
          · exact i2 k (by omega)
        · ((cbv; try simp only [wf, wfa, exD, exL, exT, exB, exA, leLs, leL_d, leL_undef, leL_nils, leA_nils, deq_refl, deq_int, deq_bool, deq_str, and_true, true_and, AObj.iter.injEq, nc, nc']; try simp (disch := omega) only [w64, w32, wu8]); first | done | rfl | omega | (simp; done) | (simp; omega) | skip)
      · (refine Later.mk ?_; cbv; try simp only [wp, (show ∀ n : Nat, _ = n from fun n => wf.2.2.2.2.2.2.2.2.2.2.2.2.2.1 (Int.ofNat n)), (show _ = (0 : Nat) from wf.2.2.2.2.2.2.2.2.2.2.2.2.2.1 0), wpa, (show ∀ n : Nat, _ = n from fun n => wfa.2.2.2.2.2.2.2.2.2.2.2.2.2.1 (Int.ofNat n)), (show _ = (0 : Nat) from wfa.2.2.2.2.2.2.2.2.2.2.2.2.2.1 0), getL, takeL, dropL, TK.isAgg, reduceIte])
        exact hR _ _ (iffF fun h => c9 (lst_inj h.2 i e))
    · obtain rfl : i = n := (by (try simp only [wf, wfa, nc, nc', Int.toNat_natCast, bsz, ByteArray.size_append, List.length_cons, List.length_nil] at *); (try simp (disch := omega) only [w64, w32, wu8] at *); first | done | omega)
      (refine Later.mk ?_; cbv; try simp only [wp, (show ∀ n : Nat, _ = n from fun n => wf.2.2.2.2.2.2.2.2.2.2.2.2.2.1 (Int.ofNat n)), (show _ = (0 : Nat) from wf.2.2.2.2.2.2.2.2.2.2.2.2.2.1 0), wpa, (show ∀ n : Nat, _ = n from fun n => wfa.2.2.2.2.2.2.2.2.2.2.2.2.2.1 (Int.ofNat n)), (show _ = (0 : Nat) from wfa.2.2.2.2.2.2.2.2.2.2.2.2.2.1 0), getL, takeL, dropL, TK.isAgg, reduceIte])
      exact hR _ _ (iffT ⟨rfl, (lst_congr fun k hk => ⟨(i2 k hk).1.symm, (i2 k hk).2.symm⟩).symm⟩)
/-- sorted, as an own slice -/
theorem SortedO (n : Nat) (V P0 : Nat → Int) (hn : n ≤ 8) : VCalls (P ()) 85 [.d (.sl n 2 (lvF V P0))] [] (fun r H => ∃ V' P', (lst V' P' n).Perm (lst V P0 n) ∧ upTo V' n ∧ r = .ref 0 0 n 2 ∧ H = [.arr n 2 (lvF V' P') 0]) :=
  (Sorted0 n V P0 hn).ghost 2 (lvF V P0) fun r H h => by
    rcases h with ⟨rfl, rfl, rfl⟩ | h
    · exact .inr ⟨rfl, V, P0, .refl _, fun k l h1 h2 => by omega, rfl, rfl⟩
    · exact .inl h
theorem variable1 (v p : Int) : VFun (P ()) 87 [.agg [.d (.int .i64 v), .d (.int .i64 p)]] (fun r => r = .d (.int .i64 v)) := by
  refine vfunO (Tf := @T) @tabOk [] 400 Tryz.func87 rfl (fun {_} => by kernel_rfl) rfl (Nat.le_of_ble_eq_true rfl) @fun ⟨_, _, _, _, _, _, _, _, _, _, _, _, _, _, _, _, _, _, _, _, _, _, _, _, _, _, _, _, _, _, _, _, _, _, _, _, _, _, wp, wf⟩ R hR => ?_
  cbv
  try simp only [wp, (show ∀ n : Nat, _ = n from fun n => wf.2.2.2.2.2.2.2.2.2.2.2.2.2.1 (Int.ofNat n)), getL, takeL, dropL, TK.isAgg, reduceIte]
  exact hR _ _ _ (.d _) rfl
theorem greater (v p v' p' : Int) : VFun (P ()) 88 [.agg [.d (.int .i64 v), .d (.int .i64 p)], .agg [.d (.int .i64 v'), .d (.int .i64 p')]] (fun r => ∃ q, q = max p p' ∧ r = .agg [.d (.int .i64 v), .d (.int .i64 q)]) := by
  refine vfunO (Tf := @T) @tabOk [] 400 Tryz.func88 rfl (fun {_} => by kernel_rfl) rfl (Nat.le_of_ble_eq_true rfl) @fun ⟨_, _, _, _, _, _, _, _, _, _, _, _, _, _, _, _, _, _, _, _, _, _, _, _, _, _, _, _, _, _, _, _, _, _, _, _, _, _, wp, wf⟩ R hR => ?_
  cbv
  try simp only [wp, (show ∀ n : Nat, _ = n from fun n => wf.2.2.2.2.2.2.2.2.2.2.2.2.2.1 (Int.ofNat n)), getL, takeL, dropL, TK.isAgg, reduceIte]
  refine hR _ _ (.agg [.d (.int .i64 v), .d (.int .i64 (max p p'))]) ?_ ⟨_, rfl, rfl⟩
  ((try simp only [wf, nc, nc', Int.toNat_natCast, bsz, ByteArray.size_append, List.length_cons, List.length_nil] at *); (try simp (disch := omega) only [w64, w32, wu8] at *))
  rw [show (if p < p' then p' else p) = max p p' by split <;> omega]
  exact .agg2 (.d _) (.d _)
end Go.VM

namespace Go.VM
open Go.Proofs Go
set_option maxRecDepth 100000
set_option linter.unusedVariables false
set_option linter.unusedSimpArgs false
theorem mx_map_add (p : Int) (l : List Pt) (v : Int) : mx (l.map fun x => (x.1, x.2 + p)) v = (mx l v).map (· + p) := by
  induction l with
  | nil => rfl
  | cons x l ih =>
    simp only [List.map_cons, mx, ih]
    by_cases h : x.1 = v
    · rw [if_pos h, if_pos h]
      cases mx l v with
      | none => rfl
      | some y => simp only [omax, Option.map_some, Option.some.injEq]; omega
    · rw [if_neg h, if_neg h]
      simp only [omax_none']
theorem lst_add_map (V P0 : Nat → Int) (p : Int) : ∀ n, lst V (fun i => P0 i + p) n = (lst V P0 n).map fun x => (x.1, x.2 + p)
  | 0 => rfl
  | n + 1 => by simp only [lst, List.map_append, lst_add_map V P0 p n, List.map_cons, List.map_nil]
/-- the first i with a number added -/
def addU (P0 : Nat → Int) (p : Int) (i : Nat) : Nat → Int := fun k => if k < i then P0 k + p else P0 k
theorem addU_step (V P0 : Nat → Int) (p : Int) (i : Nat) (x j : Nat) (hj : j < 2) : updF (lvF V (addU P0 p i)) i 1 (.int .i64 (P0 i + p)) x j = lvF V (addU P0 p (i + 1)) x j := by
  match j, hj with
  | 0, _ => simp [updF, lvF]
  | 1, _ =>
    simp only [updF, lvF, addU]
    by_cases h : x = i
    · subst h; simp
    · simp only [h, false_and, if_false]
      by_cases h2 : x < i
      · rw [if_pos h2, if_pos (by omega)]
      · rw [if_neg h2, if_neg (by omega)]
theorem addU_at (P0 : Nat → Int) (p : Int) (i : Nat) : addU P0 p i i = P0 i := if_neg (Nat.lt_irrefl _)
structure Jy where
  a : Nat
  b : Nat
  la : Nat
  lb : Nat
  m : Nat
  V : Nat → Int
  P : Nat → Int
/-- a list of parts from a place on -/
def frm (f : Nat → Int) (i : Nat) : Nat → Int := fun k => f (i + k)
theorem frm_zero (f : Nat → Int) : frm f 0 = f := by funext k; simp [frm]
theorem frm_at (f : Nat → Int) (i : Nat) : frm f i 0 = f i := rfl
theorem lst_frm (V P : Nat → Int) (i l : Nat) : lst (frm V i) (frm P i) (l + 1) = (V i, P i) :: lst (frm V (i + 1)) (frm P (i + 1)) l := by
  rw [lst_cons]
  congr 1
  exact lst_congr fun k _ => ⟨by unfold frm; rw [show i + 1 + k = i + (k + 1) by omega], by unfold frm; rw [show i + 1 + k = i + (k + 1) by omega]⟩
theorem sl_sh (V P : Nat → Int) (l i : Nat) : Deq (.sl l 2 (shF (lvF (frm V i) (frm P i)) 1)) (.sl l 2 (lvF (frm V (i + 1)) (frm P (i + 1)))) := by
  refine .sl _ _ _ _ fun x j hx hj => .of_eq ?_
  match j, hj with
  | 0, _ => show D.int .i64 (V (i + (1 + x))) = D.int .i64 (V (i + 1 + x)); rw [Nat.add_assoc]
  | 1, _ => show D.int .i64 (P (i + (1 + x))) = D.int .i64 (P (i + 1 + x)); rw [Nat.add_assoc]
def cat3 (f : Nat → Int) (k : Nat) (g : Nat → Int) (i la : Nat) (h : Nat → Int) (j : Nat) : Nat → Int := fun x => if x < k + la then (if x < k then f x else frm g i (x - k)) else frm h j (x - (k + la))
theorem cat3_app (V1 P1 V P0 V' P' : Nat → Int) (k i la j x y : Nat) (hy : y < 2) : appF (k + la) (appF k (lvF V1 P1) (lvF (frm V i) (frm P0 i))) (lvF (frm V' j) (frm P' j)) x y = lvF (cat3 V1 k V i la V' j) (cat3 P1 k P0 i la P' j) x y := by
  unfold appF cat3
  match y, hy with
  | 0, _ =>
    simp only [lvF]
    split
    · split <;> rfl
    · rfl
  | 1, _ =>
    simp only [lvF]
    split
    · split <;> rfl
    · rfl
theorem cat3_lst (V1 P1 V P0 V' P' : Nat → Int) (k i la j lb : Nat) : lst (cat3 V1 k V i la V' j) (cat3 P1 k P0 i la P' j) (k + la + lb) = lst V1 P1 k ++ lst (frm V i) (frm P0 i) la ++ lst (frm V' j) (frm P' j) lb := by
  rw [lst_add, lst_add]
  congr 1
  · congr 1
    · exact lst_congr fun x hx => ⟨by unfold cat3; rw [if_pos (by omega), if_pos hx], by unfold cat3; rw [if_pos (by omega), if_pos hx]⟩
    · exact lst_congr fun x hx => ⟨by unfold cat3; rw [if_pos (by omega), if_neg (by omega)]; congr 1; omega, by unfold cat3; rw [if_pos (by omega), if_neg (by omega)]; congr 1; omega⟩
  · exact lst_congr fun x hx => ⟨by unfold cat3; rw [if_neg (by omega)]; congr 1; omega, by unfold cat3; rw [if_neg (by omega)]; congr 1; omega⟩
set_option maxHeartbeats 4000000 in
theorem joined0 (n m : Nat) (V P0 V' P' : Nat → Int) (hn : n < 2 ^ 20) (hm : m < 2 ^ 20) : VCalls (P ()) 86 [.d (.sl n 2 (lvF V P0)), .d (.sl m 2 (lvF V' P')), .clo 87 [] [], .clo 88 [] []] []
    (fun r H => ∃ k V1 P1 i j la lb K g G, lst V1 P1 k ++ lst (frm V i) (frm P0 i) la ++ lst (frm V' j) (frm P' j) lb = joinL (lst V P0 n) (lst V' P' m) ∧ k + la + lb ≤ n + m ∧ K = k + la + lb ∧
      g = appF (k + la) (appF k (lvF V1 P1) (lvF (frm V i) (frm P0 i))) (lvF (frm V' j) (frm P' j)) ∧ r = .ref 0 0 K 2 ∧ H = [.arr K 2 g 0] ++ G) := by
  refine VCalls_of_Wo (Tf := @T) @tabOk [] 400 Tryz.func86 rfl (fun {_} => by kernel_rfl) (Nat.le_of_ble_eq_true rfl) @fun ⟨_, _, _, _, _, _, _, _, _, _, _, _, _, _, _, _, _, _, _, _, _, _, _, _, _, _, _, _, _, _, _, _, _, _, _, _, _, _, wp, wf⟩ nH R hnH hR => ?_
  subst hnH
  cbv
  try simp only [wp, (show ∀ n : Nat, _ = n from fun n => wf.2.2.2.2.2.2.2.2.2.2.2.2.2.1 (Int.ofNat n)), getL, takeL, dropL, TK.isAgg, reduceIte]
  replace hR := fun k V1 P1 i j la lb K g G h1 h2 h3 h4 => hR (.ref 0 0 K 2) _ ⟨k, V1, P1, i, j, la, lb, K, g, G, h1, h2, h3, h4, rfl, rfl⟩
  repeat' first | with_reducible refine And.intro ?_ ?_ | intro c9
  all_goals first | exact (by (try simp only [wf, nc, nc', Int.toNat_natCast, bsz, ByteArray.size_append, List.length_cons, List.length_nil] at *); (try simp (disch := omega) only [w64, w32, wu8] at *); first | done | omega) | trivial | skip
  all_goals
    refine loopO (Tf := @T) @tabOk [] 400 (fun y : Jy => ⟨[.d (.sl y.la 2 (lvF (frm V y.a) (frm P0 y.a))), .d (.sl y.lb 2 (lvF (frm V' y.b) (frm P' y.b))), .clo 87 [] [], .clo 88 [] [], .undef, .undef, .undef, .undef, .undef, .ref 0 0 y.m 2, .undef, .undef, .undef, .undef, .undef, .undef, .undef, .undef, .undef, .undef, .undef, .undef, .undef, .undef, .undef, .undef, .undef, .undef, .undef, .undef, .undef, .undef, .undef, .undef, .undef, .undef, .undef, .undef, .undef, .undef, .undef, .undef, .undef, .undef, .undef, .undef, .undef, .undef, .undef, .undef, .undef, .undef, .undef, .undef, .undef, .undef, .undef, .undef, .undef, .undef, .undef, .undef, .undef, .undef, .undef, .undef, .undef, .undef, .undef, .undef, .undef, .undef, .undef, .undef, .undef, .undef, .undef, .undef], [.arr y.m 2 (lvF y.V y.P) 0]⟩) (fun y => y.la + y.lb) (fun y => y.a + y.la = n ∧ y.b + y.lb = m ∧ y.m ≤ y.a + y.b ∧ joinL (lst V P0 n) (lst V' P' m) = lst y.V y.P y.m ++ joinL (lst (frm V y.a) (frm P0 y.a) y.la) (lst (frm V' y.b) (frm P' y.b) y.lb)) ⟨0, 0, n, m, 0, V, P0⟩ ⟨Nat.zero_add _, Nat.zero_add _, Nat.zero_le _, ?_⟩ (fun {_} => by kernel_rfl) ?_ (fun i => by kernel_rfl) @fun ⟨_, _, _, _, _, _, _, _, _, _, _, _, _, _, _, _, _, _, _, _, _, _, _, _, _, _, _, _, _, _, _, _, _, _, _, _, _, _, wpa, wfa⟩ ⟨i, j, la, lb, k, V1, P1⟩ Bk hi hBk => ?_
    · simp only [frm_zero]; rfl
    · (cbv; try simp only [wf, exD, exL, exT, exB, exA, leLs, leL_d, leL_undef, leL_nils, leA_nils, deq_refl, deq_int, deq_bool, deq_str, and_true, true_and, AObj.iter.injEq, nc, nc']; try simp (disch := omega) only [w64, w32, wu8])
      simp only [frm_zero]
      exact ⟨⟨.refl _, .refl _, rfl⟩, rfl, Nat.le_refl _, Nat.le_refl _, fun i j hi => absurd hi (Nat.not_lt_zero _)⟩
    obtain ⟨i1, i2, i3, i4⟩ := hi
    dsimp only at i1 i2 i3 i4
    have sa := fun l => sl_sh V P0 l i
    have sb := fun l => sl_sh V' P' l j
    obtain ⟨fv, hfv⟩ : ∃ fv, fv = frm V i := ⟨_, rfl⟩
    obtain ⟨fp, hfp⟩ : ∃ fp, fp = frm P0 i := ⟨_, rfl⟩
    obtain ⟨gv, hgv⟩ : ∃ gv, gv = frm V' j := ⟨_, rfl⟩
    obtain ⟨gp, hgp⟩ : ∃ gp, gp = frm P' j := ⟨_, rfl⟩
    have vi : fv 0 = V i := by rw [hfv]; rfl
    have pi : fp 0 = P0 i := by rw [hfp]; rfl
    have vj : gv 0 = V' j := by rw [hgv]; rfl
    have pj : gp 0 = P' j := by rw [hgp]; rfl
    rw [← hfv, ← hfp] at sa
    rw [← hgv, ← hgp] at sb
    have j1 : ∀ la2, la = la2 + 1 → V i < V' j → ∀ lb2, lb = lb2 + 1 → lst V1 P1 k ++ joinL (lst (frm V i) (frm P0 i) la) (lst (frm V' j) (frm P' j) lb) = lst V1 P1 k ++ [(V i, P0 i)] ++ joinL (lst (frm V (i + 1)) (frm P0 (i + 1)) la2) (lst (frm V' j) (frm P' j) lb) := fun la2 h1 h lb2 h2 => by
      rw [h1, h2, lst_frm, lst_frm V', joinL_cons, if_pos h, List.append_assoc]; rfl
    have j2 : ∀ la2, la = la2 + 1 → V' j < V i → ∀ lb2, lb = lb2 + 1 → lst V1 P1 k ++ joinL (lst (frm V i) (frm P0 i) la) (lst (frm V' j) (frm P' j) lb) = lst V1 P1 k ++ [(V' j, P' j)] ++ joinL (lst (frm V i) (frm P0 i) la) (lst (frm V' (j + 1)) (frm P' (j + 1)) lb2) := fun la2 h1 h lb2 h2 => by
      rw [h1, h2, lst_frm, lst_frm V', joinL_cons, if_neg (by dsimp only; omega), if_pos h, List.append_assoc]; rfl
    have j3 : ∀ la2, la = la2 + 1 → V i = V' j → ∀ lb2, lb = lb2 + 1 → ∀ q, q = max (P0 i) (P' j) → lst V1 P1 k ++ joinL (lst (frm V i) (frm P0 i) la) (lst (frm V' j) (frm P' j) lb) = lst V1 P1 k ++ [(V i, q)] ++ joinL (lst (frm V (i + 1)) (frm P0 (i + 1)) la2) (lst (frm V' (j + 1)) (frm P' (j + 1)) lb2) := fun la2 h1 h lb2 h2 q hq => by
      rw [h1, h2, lst_frm, lst_frm V', joinL_cons, if_neg (by dsimp only; omega), if_neg (by dsimp only; omega), List.append_assoc, hq]; rfl
    rw [← hfv, ← hfp, ← hgv, ← hgp]
    (cbv; try simp only [wp, (show ∀ n : Nat, _ = n from fun n => wf.2.2.2.2.2.2.2.2.2.2.2.2.2.1 (Int.ofNat n)), (show _ = (0 : Nat) from wf.2.2.2.2.2.2.2.2.2.2.2.2.2.1 0), wpa, (show ∀ n : Nat, _ = n from fun n => wfa.2.2.2.2.2.2.2.2.2.2.2.2.2.1 (Int.ofNat n)), (show _ = (0 : Nat) from wfa.2.2.2.2.2.2.2.2.2.2.2.2.2.1 0), getL, takeL, dropL, TK.isAgg, reduceIte])
    repeat' first | with_reducible refine And.intro ?_ ?_ | intro c9
    all_goals first | exact (by (try simp only [wf, wfa, nc, nc', Int.toNat_natCast, bsz, ByteArray.size_append, List.length_cons, List.length_nil] at *); (try simp (disch := omega) only [w64, w32, wu8] at *); first | done | omega) | trivial | skip
    · (refine Later.mk ?_; cbv; try simp only [wp, (show ∀ n : Nat, _ = n from fun n => wf.2.2.2.2.2.2.2.2.2.2.2.2.2.1 (Int.ofNat n)), (show _ = (0 : Nat) from wf.2.2.2.2.2.2.2.2.2.2.2.2.2.1 0), wpa, (show ∀ n : Nat, _ = n from fun n => wfa.2.2.2.2.2.2.2.2.2.2.2.2.2.1 (Int.ofNat n)), (show _ = (0 : Nat) from wfa.2.2.2.2.2.2.2.2.2.2.2.2.2.1 0), getL, takeL, dropL, TK.isAgg, reduceIte])
      repeat' first | with_reducible refine And.intro ?_ ?_ | intro c9
      all_goals first | exact (by (try simp only [wf, wfa, nc, nc', Int.toNat_natCast, bsz, ByteArray.size_append, List.length_cons, List.length_nil] at *); (try simp (disch := omega) only [w64, w32, wu8] at *); first | done | omega) | trivial | skip
      all_goals
        have hla : 0 < la := (by (try simp only [wf, wfa, nc, nc', Int.toNat_natCast, bsz, ByteArray.size_append, List.length_cons, List.length_nil] at *); (try simp (disch := omega) only [w64, w32, wu8] at *); first | done | omega)
        have hlb : 0 < lb := (by (try simp only [wf, wfa, nc, nc', Int.toNat_natCast, bsz, ByteArray.size_append, List.length_cons, List.length_nil] at *); (try simp (disch := omega) only [w64, w32, wu8] at *); first | done | omega)
        obtain ⟨la2, ha2⟩ : ∃ la2, la = la2 + 1 := ⟨la - 1, by omega⟩
        obtain ⟨lb2, hb2⟩ : ∃ lb2, lb = lb2 + 1 := ⟨lb - 1, by omega⟩
      all_goals
        obtain ⟨q0, hq0⟩ : ∃ q0, q0 = max (P0 i) (P' j) := ⟨_, rfl⟩
        refine (variable1 _ _).call ?_
        rintro _ rfl
        (cbv; try simp only [wp, (show ∀ n : Nat, _ = n from fun n => wf.2.2.2.2.2.2.2.2.2.2.2.2.2.1 (Int.ofNat n)), (show _ = (0 : Nat) from wf.2.2.2.2.2.2.2.2.2.2.2.2.2.1 0), wpa, (show ∀ n : Nat, _ = n from fun n => wfa.2.2.2.2.2.2.2.2.2.2.2.2.2.1 (Int.ofNat n)), (show _ = (0 : Nat) from wfa.2.2.2.2.2.2.2.2.2.2.2.2.2.1 0), getL, takeL, dropL, TK.isAgg, reduceIte])
        repeat' first | trivial | with_reducible refine And.intro ?_ ?_ | intro c9
      all_goals
        refine (variable1 _ _).call ?_
        rintro _ rfl
        (cbv; try simp only [wp, (show ∀ n : Nat, _ = n from fun n => wf.2.2.2.2.2.2.2.2.2.2.2.2.2.1 (Int.ofNat n)), (show _ = (0 : Nat) from wf.2.2.2.2.2.2.2.2.2.2.2.2.2.1 0), wpa, (show ∀ n : Nat, _ = n from fun n => wfa.2.2.2.2.2.2.2.2.2.2.2.2.2.1 (Int.ofNat n)), (show _ = (0 : Nat) from wfa.2.2.2.2.2.2.2.2.2.2.2.2.2.1 0), getL, takeL, dropL, TK.isAgg, reduceIte])
        repeat' first | trivial | with_reducible refine And.intro ?_ ?_ | intro c9
      all_goals
        refine (Compare _ _).call ?_
        rintro _ ⟨z, hz, rfl⟩
        rw [vi, vj] at hz
        (cbv; try simp only [wp, (show ∀ n : Nat, _ = n from fun n => wf.2.2.2.2.2.2.2.2.2.2.2.2.2.1 (Int.ofNat n)), (show _ = (0 : Nat) from wf.2.2.2.2.2.2.2.2.2.2.2.2.2.1 0), wpa, (show ∀ n : Nat, _ = n from fun n => wfa.2.2.2.2.2.2.2.2.2.2.2.2.2.1 (Int.ofNat n)), (show _ = (0 : Nat) from wfa.2.2.2.2.2.2.2.2.2.2.2.2.2.1 0), getL, takeL, dropL, TK.isAgg, reduceIte])
        refine ⟨fun c9 => ?_, fun c9 => ?_⟩
        · have hv : V i < V' j := by
            rw [hz] at c9
            split at c9
            · assumption
            · split at c9 <;> omega
          (refine Later.mk ?_; cbv; try simp only [wp, (show ∀ n : Nat, _ = n from fun n => wf.2.2.2.2.2.2.2.2.2.2.2.2.2.1 (Int.ofNat n)), (show _ = (0 : Nat) from wf.2.2.2.2.2.2.2.2.2.2.2.2.2.1 0), wpa, (show ∀ n : Nat, _ = n from fun n => wfa.2.2.2.2.2.2.2.2.2.2.2.2.2.1 (Int.ofNat n)), (show _ = (0 : Nat) from wfa.2.2.2.2.2.2.2.2.2.2.2.2.2.1 0), getL, takeL, dropL, TK.isAgg, reduceIte])
          apply both
          case h =>
              intro key
              repeat' first | (clear key; trivial) | with_reducible refine And.intro ?_ ?_ | (show Bk _; exact key) | (clear key; show _ ≤ _; exact (by (try simp only [wf, wfa, nc, nc', Int.toNat_natCast, bsz, ByteArray.size_append, List.length_cons, List.length_nil] at *); (try simp (disch := omega) only [w64, w32, wu8] at *); first | done | omega)) | (clear key; show _ < _; exact (by (try simp only [wf, wfa, nc, nc', Int.toNat_natCast, bsz, ByteArray.size_append, List.length_cons, List.length_nil] at *); (try simp (disch := omega) only [w64, w32, wu8] at *); first | done | omega)) | (clear key; show _ = _; exact (by (try simp only [wf, wfa, nc, nc', Int.toNat_natCast, bsz, ByteArray.size_append, List.length_cons, List.length_nil] at *); (try simp (disch := omega) only [w64, w32, wu8] at *); first | done | omega))
          case g =>
              refine hBk ⟨i + 1, j, la2, lb, k + 1, ext V1 k (V i), ext P1 k (P0 i)⟩ _ (by dsimp only; omega) ⟨by dsimp only; omega, by dsimp only; omega, by dsimp only; omega, by dsimp only; rw [lst_ext, i4]; exact j1 la2 ha2 hv lb2 hb2⟩ ?_
              (cbv; try simp only [wf, wfa, exD, exL, exT, exB, exA, leLs, leL_d, leL_undef, leL_nils, leA_nils, deq_refl, deq_int, deq_bool, deq_str, and_true, true_and, AObj.iter.injEq, nc, nc']; try simp (disch := omega) only [w64, w32, wu8])
              ((try simp only [wf, wfa, nc, nc', Int.toNat_natCast, bsz, ByteArray.size_append, List.length_cons, List.length_nil] at *); (try simp (disch := omega) only [w64, w32, wu8] at *))
              refine ⟨⟨?_, ?_⟩, Nat.le_refl _, Nat.zero_le _, fun x y hx hy => ?_⟩
              · rw [ha2]; exact sa la2
              · rw [hgv, hgp]; exact .refl _
              · rw [vi, pi]
                exact .of_eq (ext_row _ _ _ _ _ x y hx hy)
        · (refine Later.mk ?_; cbv; try simp only [wp, (show ∀ n : Nat, _ = n from fun n => wf.2.2.2.2.2.2.2.2.2.2.2.2.2.1 (Int.ofNat n)), (show _ = (0 : Nat) from wf.2.2.2.2.2.2.2.2.2.2.2.2.2.1 0), wpa, (show ∀ n : Nat, _ = n from fun n => wfa.2.2.2.2.2.2.2.2.2.2.2.2.2.1 (Int.ofNat n)), (show _ = (0 : Nat) from wfa.2.2.2.2.2.2.2.2.2.2.2.2.2.1 0), getL, takeL, dropL, TK.isAgg, reduceIte])
          refine ⟨fun c9 => ?_, fun c9 => ?_⟩
          · have hv : V' j < V i := by
              rw [hz] at c9
              split at c9
              · omega
              · split at c9
                · assumption
                · omega
            (refine Later.mk ?_; cbv; try simp only [wp, (show ∀ n : Nat, _ = n from fun n => wf.2.2.2.2.2.2.2.2.2.2.2.2.2.1 (Int.ofNat n)), (show _ = (0 : Nat) from wf.2.2.2.2.2.2.2.2.2.2.2.2.2.1 0), wpa, (show ∀ n : Nat, _ = n from fun n => wfa.2.2.2.2.2.2.2.2.2.2.2.2.2.1 (Int.ofNat n)), (show _ = (0 : Nat) from wfa.2.2.2.2.2.2.2.2.2.2.2.2.2.1 0), getL, takeL, dropL, TK.isAgg, reduceIte])
            apply both
            case h =>
              intro key
              repeat' first | (clear key; trivial) | with_reducible refine And.intro ?_ ?_ | (show Bk _; exact key) | (clear key; show _ ≤ _; exact (by (try simp only [wf, wfa, nc, nc', Int.toNat_natCast, bsz, ByteArray.size_append, List.length_cons, List.length_nil] at *); (try simp (disch := omega) only [w64, w32, wu8] at *); first | done | omega)) | (clear key; show _ < _; exact (by (try simp only [wf, wfa, nc, nc', Int.toNat_natCast, bsz, ByteArray.size_append, List.length_cons, List.length_nil] at *); (try simp (disch := omega) only [w64, w32, wu8] at *); first | done | omega)) | (clear key; show _ = _; exact (by (try simp only [wf, wfa, nc, nc', Int.toNat_natCast, bsz, ByteArray.size_append, List.length_cons, List.length_nil] at *); (try simp (disch := omega) only [w64, w32, wu8] at *); first | done | omega))
            case g =>
              refine hBk ⟨i, j + 1, la, lb2, k + 1, ext V1 k (V' j), ext P1 k (P' j)⟩ _ (by dsimp only; omega) ⟨by dsimp only; omega, by dsimp only; omega, by dsimp only; omega, by dsimp only; rw [lst_ext, i4]; exact j2 la2 ha2 hv lb2 hb2⟩ ?_
              (cbv; try simp only [wf, wfa, exD, exL, exT, exB, exA, leLs, leL_d, leL_undef, leL_nils, leA_nils, deq_refl, deq_int, deq_bool, deq_str, and_true, true_and, AObj.iter.injEq, nc, nc']; try simp (disch := omega) only [w64, w32, wu8])
              ((try simp only [wf, wfa, nc, nc', Int.toNat_natCast, bsz, ByteArray.size_append, List.length_cons, List.length_nil] at *); (try simp (disch := omega) only [w64, w32, wu8] at *))
              refine ⟨⟨?_, ?_⟩, Nat.le_refl _, Nat.zero_le _, fun x y hx hy => ?_⟩
              · rw [hfv, hfp]; exact .refl _
              · rw [hb2]; exact sb lb2
              · rw [vj, pj]
                exact .of_eq (ext_row _ _ _ _ _ x y hx hy)
          · have hv : V i = V' j := by
              rw [hz] at c9
              split at c9
              · omega
              · split at c9 <;> omega
            (refine Later.mk ?_; cbv; try simp only [wp, (show ∀ n : Nat, _ = n from fun n => wf.2.2.2.2.2.2.2.2.2.2.2.2.2.1 (Int.ofNat n)), (show _ = (0 : Nat) from wf.2.2.2.2.2.2.2.2.2.2.2.2.2.1 0), wpa, (show ∀ n : Nat, _ = n from fun n => wfa.2.2.2.2.2.2.2.2.2.2.2.2.2.1 (Int.ofNat n)), (show _ = (0 : Nat) from wfa.2.2.2.2.2.2.2.2.2.2.2.2.2.1 0), getL, takeL, dropL, TK.isAgg, reduceIte])
            apply both
            case h =>
              intro key
              repeat' first | (clear key; trivial) | with_reducible refine And.intro ?_ ?_ | (show Bk _; exact key) | (refine (greater _ _ _ _).call ?_; rintro _ ⟨q, hq, rfl⟩; rw [pi, pj, ← hq0] at hq; subst hq; (cbv; try simp only [wp, (show ∀ n : Nat, _ = n from fun n => wf.2.2.2.2.2.2.2.2.2.2.2.2.2.1 (Int.ofNat n)), (show _ = (0 : Nat) from wf.2.2.2.2.2.2.2.2.2.2.2.2.2.1 0), wpa, (show ∀ n : Nat, _ = n from fun n => wfa.2.2.2.2.2.2.2.2.2.2.2.2.2.1 (Int.ofNat n)), (show _ = (0 : Nat) from wfa.2.2.2.2.2.2.2.2.2.2.2.2.2.1 0), getL, takeL, dropL, TK.isAgg, reduceIte])) | (clear key; show _ ≤ _; exact (by (try simp only [wf, wfa, nc, nc', Int.toNat_natCast, bsz, ByteArray.size_append, List.length_cons, List.length_nil] at *); (try simp (disch := omega) only [w64, w32, wu8] at *); first | done | omega)) | (clear key; show _ < _; exact (by (try simp only [wf, wfa, nc, nc', Int.toNat_natCast, bsz, ByteArray.size_append, List.length_cons, List.length_nil] at *); (try simp (disch := omega) only [w64, w32, wu8] at *); first | done | omega)) | (clear key; show _ = _; exact (by (try simp only [wf, wfa, nc, nc', Int.toNat_natCast, bsz, ByteArray.size_append, List.length_cons, List.length_nil] at *); (try simp (disch := omega) only [w64, w32, wu8] at *); first | done | omega))
            case g =>
              refine hBk ⟨i + 1, j + 1, la2, lb2, k + 1, ext V1 k (V i), ext P1 k q0⟩ _ (by dsimp only; omega) ⟨by dsimp only; omega, by dsimp only; omega, by dsimp only; omega, by dsimp only; rw [lst_ext, i4]; exact j3 la2 ha2 hv lb2 hb2 q0 hq0⟩ ?_
              (cbv; try simp only [wf, wfa, exD, exL, exT, exB, exA, leLs, leL_d, leL_undef, leL_nils, leA_nils, deq_refl, deq_int, deq_bool, deq_str, and_true, true_and, AObj.iter.injEq, nc, nc']; try simp (disch := omega) only [w64, w32, wu8])
              ((try simp only [wf, wfa, nc, nc', Int.toNat_natCast, bsz, ByteArray.size_append, List.length_cons, List.length_nil] at *); (try simp (disch := omega) only [w64, w32, wu8] at *))
              refine ⟨⟨?_, ?_⟩, Nat.le_refl _, Nat.zero_le _, fun x y hx hy => ?_⟩
              · rw [ha2]; exact sa la2
              · rw [hb2]; exact sb lb2
              · rw [vi]
                exact .of_eq (ext_row _ _ _ _ _ x y hx hy)
    · have e9 : lb = 0 := (by (try simp only [wf, wfa, nc, nc', Int.toNat_natCast, bsz, ByteArray.size_append, List.length_cons, List.length_nil] at *); (try simp (disch := omega) only [w64, w32, wu8] at *); first | done | omega)
      (refine Later.mk ?_; cbv; try simp only [wp, (show ∀ n : Nat, _ = n from fun n => wf.2.2.2.2.2.2.2.2.2.2.2.2.2.1 (Int.ofNat n)), (show _ = (0 : Nat) from wf.2.2.2.2.2.2.2.2.2.2.2.2.2.1 0), wpa, (show ∀ n : Nat, _ = n from fun n => wfa.2.2.2.2.2.2.2.2.2.2.2.2.2.1 (Int.ofNat n)), (show _ = (0 : Nat) from wfa.2.2.2.2.2.2.2.2.2.2.2.2.2.1 0), getL, takeL, dropL, TK.isAgg, reduceIte])
      repeat' first | with_reducible refine And.intro ?_ ?_ | intro c9
      all_goals first | exact (by (try simp only [wf, wfa, nc, nc', Int.toNat_natCast, bsz, ByteArray.size_append, List.length_cons, List.length_nil] at *); (try simp (disch := omega) only [w64, w32, wu8] at *); first | done | omega) | trivial | skip
      ((try simp only [wf, wfa, nc, nc', Int.toNat_natCast, bsz, ByteArray.size_append, List.length_cons, List.length_nil] at *); (try simp (disch := omega) only [w64, w32, wu8] at *))
      exact hR k V1 P1 i j la lb _ _ [] (by rw [i4, e9]; simp [lst, joinL_nil]) (by omega) rfl (by rw [hfv, hfp, hgv, hgp])
    · have e9 : la = 0 := (by (try simp only [wf, wfa, nc, nc', Int.toNat_natCast, bsz, ByteArray.size_append, List.length_cons, List.length_nil] at *); (try simp (disch := omega) only [w64, w32, wu8] at *); first | done | omega)
      (refine Later.mk ?_; cbv; try simp only [wp, (show ∀ n : Nat, _ = n from fun n => wf.2.2.2.2.2.2.2.2.2.2.2.2.2.1 (Int.ofNat n)), (show _ = (0 : Nat) from wf.2.2.2.2.2.2.2.2.2.2.2.2.2.1 0), wpa, (show ∀ n : Nat, _ = n from fun n => wfa.2.2.2.2.2.2.2.2.2.2.2.2.2.1 (Int.ofNat n)), (show _ = (0 : Nat) from wfa.2.2.2.2.2.2.2.2.2.2.2.2.2.1 0), getL, takeL, dropL, TK.isAgg, reduceIte])
      repeat' first | with_reducible refine And.intro ?_ ?_ | intro c9
      all_goals first | exact (by (try simp only [wf, wfa, nc, nc', Int.toNat_natCast, bsz, ByteArray.size_append, List.length_cons, List.length_nil] at *); (try simp (disch := omega) only [w64, w32, wu8] at *); first | done | omega) | trivial | skip
      ((try simp only [wf, wfa, nc, nc', Int.toNat_natCast, bsz, ByteArray.size_append, List.length_cons, List.length_nil] at *); (try simp (disch := omega) only [w64, w32, wu8] at *))
      exact hR k V1 P1 i j la lb _ _ [] (by rw [i4, e9]; simp [lst, joinL_nil']) (by omega) rfl (by rw [hfv, hfp, hgv, hgp])
theorem joined (n m : Nat) (V P0 V' P' : Nat → Int) (hn : n < 2 ^ 20) (hm : m < 2 ^ 20) : VCalls (P ()) 86 [.d (.sl n 2 (lvF V P0)), .d (.sl m 2 (lvF V' P')), .clo 87 [] [], .clo 88 [] []] []
    (fun r H => ∃ k V2 P2, lst V2 P2 k = joinL (lst V P0 n) (lst V' P' m) ∧ k ≤ n + m ∧ r = .ref 0 0 k 2 ∧ H = [.arr k 2 (lvF V2 P2) 0]) :=
  (joined0 n m V P0 V' P' hn hm).less fun r H h => by
    obtain ⟨k, V1, P1, i, j, la, lb, K, g, G, h1, h2, rfl, rfl, rfl, rfl⟩ := h
    refine ⟨[.arr (k + la + lb) 2 (lvF (cat3 V1 k V i la V' j) (cat3 P1 k P0 i la P' j)) 0], ⟨⟨_, 0, rfl, Nat.le_refl _, Nat.zero_le _, fun x y hx hy => .of_eq (cat3_app _ _ _ _ _ _ _ _ _ _ x y hy)⟩, trivial⟩, Nat.zero_le _, rfl, rfl, k + la + lb, _, _, ?_, h2, rfl, rfl⟩
    rw [← h1]
    exact cat3_lst _ _ _ _ _ _ _ _ _ _ _
end Go.VM

namespace Go.VM
open Go.Proofs Go
set_option maxRecDepth 100000
set_option linter.unusedVariables false
set_option linter.unusedSimpArgs false
def catF (f : Nat → Int) (n : Nat) (g : Nat → Int) : Nat → Int := fun x => if x < n then f x else g (x - n)
theorem catF_app (V P V' P' : Nat → Int) (n x j : Nat) (hj : j < 2) : appF n (lvF V P) (lvF V' P') x j = lvF (catF V n V') (catF P n P') x j := by
  unfold appF catF
  match j, hj with
  | 0, _ => simp only [lvF]; split <;> rfl
  | 1, _ => simp only [lvF]; split <;> rfl
theorem catF_lst (V P V' P' : Nat → Int) (n m : Nat) : lst (catF V n V') (catF P n P') (n + m) = lst V P n ++ lst V' P' m := by
  rw [lst_add]
  congr 1
  · exact lst_congr fun x hx => ⟨if_pos hx, if_pos hx⟩
  · exact lst_congr fun x hx => ⟨by unfold catF; rw [if_neg (by omega)]; congr 1; omega, by unfold catF; rw [if_neg (by omega)]; congr 1; omega⟩
theorem CanR.of {c : Int} {f g : Int → Option Int} {r : A} (h : CanR c f r) (e : ∀ v, f v = g v) : CanR c g r := by
  obtain ⟨q, h1, h2, h3⟩ := h; exact ⟨q, h1, fun v => (h2 v).trans (e v), h3⟩
end Go.VM

namespace Go.VM
open Go.Proofs Go
set_option maxRecDepth 100000
set_option linter.unusedVariables false
set_option linter.unusedSimpArgs false
/-- two results that are the same -/
def Same2 (r r' : A) : Prop := ∃ c n V P e c' n' V' P', r = .tup [lv c n V P, .d (.int .i64 e)] ∧ r' = .tup [lv c' n' V' P', .d (.int .i64 e)] ∧ n < 2 ^ 61 ∧ n' < 2 ^ 61 ∧ c = c' ∧ lst V P n = lst V' P' n'
theorem LvRes.same {o : Option (Int × List Pt)} {e : Int} {r r' : A} (h : LvRes o e r) (h' : LvRes o e r') : Same2 r r' := by
  obtain ⟨c, n, V, P, e1, rfl, h1, h2, h3⟩ := h
  obtain ⟨c', n', V', P', e1', rfl, h1', h2', h3'⟩ := h'
  cases o with
  | none =>
    obtain ⟨rfl, rfl, rfl⟩ := h2 rfl
    obtain ⟨rfl, rfl, rfl⟩ := h2' rfl
    exact ⟨_, _, _, _, _, _, _, _, _, rfl, rfl, h1, h1', rfl, rfl⟩
  | some x =>
    obtain ⟨rfl, rfl, h4⟩ := h3 x rfl
    obtain ⟨rfl, rfl, h4'⟩ := h3' x rfl
    exact ⟨_, _, _, _, _, _, _, _, _, rfl, rfl, h1, h1', rfl, h4.trans h4'.symm⟩
theorem CanR.same {c : Int} {f : Int → Option Int} {r r' : A} (h : CanR c f r) (h' : CanR c f r') : Same2 r r' := by
  obtain ⟨q, h1, h2, h3⟩ := h
  obtain ⟨q', h1', h2', h3'⟩ := h'
  have e := asc_ext h1 h1' fun v => (h2 v).trans (h2' v).symm
  subst e
  exact h3.same h3'
theorem OpR.same {ok : Prop} {c : Int} {f : Int → Option Int} {r r' : A} (h : OpR ok c f r) (h' : OpR ok c f r') : Same2 r r' := by
  rcases h with ⟨h, h1⟩ | ⟨h, h1⟩ <;> rcases h' with ⟨h', h1'⟩ | ⟨h', h1'⟩
  · exact h1.same h1'
  · exact absurd h' h
  · exact absurd h h'
  · exact h1.same h1'
theorem OpR.form {ok : Prop} {c : Int} {f : Int → Option Int} {r : A} (h : OpR ok c f r) : ∃ c n V P e, r = .tup [lv c n V P, .d (.int .i64 e)] ∧ n < 2 ^ 61 := by
  obtain ⟨c, n, V, P, e, _, _, _, _, h1, _, h2, _⟩ := h.same h
  exact ⟨c, n, V, P, e, h1, h2⟩
theorem OpR.pair {ok : Prop} {c : Int} {f : Int → Option Int} {c1 : Int} {n1 : Nat} {V1 P1 : Nat → Int} {e1 : Int} {r' : A} (h : OpR ok c f (.tup [lv c1 n1 V1 P1, .d (.int .i64 e1)])) (h' : OpR ok c f r') :
    ∃ c2 n2 V2 P2, r' = .tup [lv c2 n2 V2 P2, .d (.int .i64 e1)] ∧ n2 < 2 ^ 61 ∧ e1 = e1 ∧ c1 = c2 ∧ lst V1 P1 n1 = lst V2 P2 n2 := by
  obtain ⟨c, n, V, P, e, c2, n2, V2, P2, h1, rfl, h3, h4, h5, h6⟩ := h.same h'
  simp only [lv, A.tup.injEq, List.cons.injEq, A.agg.injEq, A.d.injEq, D.int.injEq, D.sl.injEq, true_and, and_true] at h1
  obtain ⟨⟨rfl, rfl, hf⟩, rfl⟩ := h1
  refine ⟨c2, n2, V2, P2, rfl, h4, rfl, h5, h6 ▸ lst_congr fun k _ => ⟨?_, ?_⟩⟩
  · have := congrFun (congrFun hf k) 0
    simpa [lvF] using this
  · have := congrFun (congrFun hf k) 1
    simpa [lvF] using this
end Go.VM
