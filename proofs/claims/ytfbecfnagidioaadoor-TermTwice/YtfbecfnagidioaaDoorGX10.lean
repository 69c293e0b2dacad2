/- Part of the proof: LayBldT, TT7, LV3, LV4, LV5, LV6, LB2. -/
import Derived.Test.YtfbecfnagidioaaDoorProg
import Derived.Shelf.Strings.BuilderF
import Derived.Test.YtfbecfnagidioaaDoorGX9
import Derived.Test.YtfbecfnagidioaaDoorGX8
import Derived.Test.YtfbecfnagidioaaDoorGV5
import Derived.Test.YtfbecfnagidioaaDoorGV6
/- The kit's structures of strings.Builder's methods, at this program's own numbers. -/
set_option maxRecDepth 100000
namespace Go.Proofs
open Go.Shelf
def Tryd.bldRen : Go.Shelf.Ren := ⟨fun | 166 => 93 | 167 => 97 | 169 => 76 | 240 => 108 | 276 => 120 | n => n, fun | 0 => 0 | 3 => 3 | 4 => 4 | 5 => 5 | 9 => 9 | 20 => 20 | 37 => 78 | 70 => 77 | 72 => 80 | 75 => 94 | 80 => 82 | 127 => 101 | 164 => 114 | n => n, fun | n => n⟩
theorem Tryd.bld166 : Go.Proofs.Lays.n166 Tryd.prog Tryd.bldRen := {
  mixed := by kernel_rfl
  f166 := Tryd.func93.trans (congrArg some (by kernel_rfl))
  f240 := Tryd.func108.trans (congrArg some (by kernel_rfl))
  f276 := Tryd.func120.trans (congrArg some (by kernel_rfl))
  t0 := Tryd.underlying0
  a0 := Tryd.isAgg0
  z0 := Tryd.sizeOf0
  v0 := Tryd.zeroValue0
  t3 := Tryd.underlying3
  a3 := Tryd.isAgg3
  z3 := Tryd.sizeOf3
  v3 := Tryd.zeroValue3
  t4 := Tryd.underlying4
  a4 := Tryd.isAgg4
  z4 := Tryd.sizeOf4
  v4 := Tryd.zeroValue4
  t9 := Tryd.underlying9
  a9 := Tryd.isAgg9
  z9 := Tryd.sizeOf9
  v9 := Tryd.zeroValue9
  t20 := Tryd.underlying20
  a20 := Tryd.isAgg20
  z20 := Tryd.sizeOf20
  v20 := Tryd.zeroValue20
  t37 := Tryd.underlying78
  a37 := Tryd.isAgg78
  z37 := Tryd.sizeOf78
  v37 := Tryd.zeroValue78
  t70 := Tryd.underlying77
  a70 := Tryd.isAgg77
  z70 := Tryd.sizeOf77
  v70 := Tryd.zeroValue77
  t72 := Tryd.underlying80
  a72 := Tryd.isAgg80
  z72 := Tryd.sizeOf80
  v72 := Tryd.zeroValue80
  t75 := Tryd.underlying94
  a75 := Tryd.isAgg94
  z75 := Tryd.sizeOf94
  v75 := Tryd.zeroValue94
  t164 := Tryd.underlying114
  a164 := Tryd.isAgg114
  z164 := Tryd.sizeOf114
  v164 := Tryd.zeroValue114 }
theorem Tryd.bld167 : Go.Proofs.Lays.n167 Tryd.prog Tryd.bldRen := {
  mixed := by kernel_rfl
  f167 := Tryd.func97.trans (congrArg some (by kernel_rfl))
  f240 := Tryd.func108.trans (congrArg some (by kernel_rfl))
  f276 := Tryd.func120.trans (congrArg some (by kernel_rfl))
  t0 := Tryd.underlying0
  a0 := Tryd.isAgg0
  z0 := Tryd.sizeOf0
  v0 := Tryd.zeroValue0
  t4 := Tryd.underlying4
  a4 := Tryd.isAgg4
  z4 := Tryd.sizeOf4
  v4 := Tryd.zeroValue4
  t5 := Tryd.underlying5
  a5 := Tryd.isAgg5
  z5 := Tryd.sizeOf5
  v5 := Tryd.zeroValue5
  t9 := Tryd.underlying9
  a9 := Tryd.isAgg9
  z9 := Tryd.sizeOf9
  v9 := Tryd.zeroValue9
  t20 := Tryd.underlying20
  a20 := Tryd.isAgg20
  z20 := Tryd.sizeOf20
  v20 := Tryd.zeroValue20
  t37 := Tryd.underlying78
  a37 := Tryd.isAgg78
  z37 := Tryd.sizeOf78
  v37 := Tryd.zeroValue78
  t70 := Tryd.underlying77
  a70 := Tryd.isAgg77
  z70 := Tryd.sizeOf77
  v70 := Tryd.zeroValue77
  t72 := Tryd.underlying80
  a72 := Tryd.isAgg80
  z72 := Tryd.sizeOf80
  v72 := Tryd.zeroValue80
  t75 := Tryd.underlying94
  a75 := Tryd.isAgg94
  z75 := Tryd.sizeOf94
  v75 := Tryd.zeroValue94
  t164 := Tryd.underlying114
  a164 := Tryd.isAgg114
  z164 := Tryd.sizeOf114
  v164 := Tryd.zeroValue114 }
theorem Tryd.bld169 : Go.Proofs.Lays.n169 Tryd.prog Tryd.bldRen := {
  mixed := by kernel_rfl
  f169 := Tryd.func76.trans (congrArg some (by kernel_rfl))
  t0 := Tryd.underlying0
  a0 := Tryd.isAgg0
  z0 := Tryd.sizeOf0
  v0 := Tryd.zeroValue0
  t3 := Tryd.underlying3
  a3 := Tryd.isAgg3
  z3 := Tryd.sizeOf3
  v3 := Tryd.zeroValue3
  t9 := Tryd.underlying9
  a9 := Tryd.isAgg9
  z9 := Tryd.sizeOf9
  v9 := Tryd.zeroValue9
  t37 := Tryd.underlying78
  a37 := Tryd.isAgg78
  z37 := Tryd.sizeOf78
  v37 := Tryd.zeroValue78
  t70 := Tryd.underlying77
  a70 := Tryd.isAgg77
  z70 := Tryd.sizeOf77
  v70 := Tryd.zeroValue77
  t72 := Tryd.underlying80
  a72 := Tryd.isAgg80
  z72 := Tryd.sizeOf80
  v72 := Tryd.zeroValue80
  t127 := Tryd.underlying101
  a127 := Tryd.isAgg101
  z127 := Tryd.sizeOf101
  v127 := Tryd.zeroValue101 }
theorem Tryd.bldExtra : Go.Proofs.Builder.Extra Tryd.prog Tryd.bldRen := {
  sizeBuilder := by kernel_rfl
  liesBuilder := by kernel_rfl
  t5 := Tryd.underlying5
  a5 := Tryd.isAgg5
  z5 := Tryd.sizeOf5
  v5 := Tryd.zeroValue5
  infoByte := by kernel_rfl
  cellsByte := by kernel_rfl
  sizeByte := by kernel_rfl
  neB5 := by decide }
end Go.Proofs

namespace Go.VM
open Go.Proofs Go
set_option maxRecDepth 100000
set_option linter.unusedVariables false
set_option linter.unusedSimpArgs false
theorem small0 : VFun (P ()) 128 [.d (.int .i64 0)] (fun r => r = .d (.str ⟨⟨[48]⟩⟩)) := by
  refine vfunO (Tf := fun {_} _ => fzT [] (T ())) (fun {_} => tabOk.frz []) [] 400 Tryd.func128 rfl (fun {_} => by kernel_rfl) rfl (Nat.le_of_ble_eq_true rfl) @fun ⟨_, _, _, _, _, _, _, _, _, _, _, _, _, _, _, _, _, _, _, _, _, _, _, _, _, _, _, _, _, _, _, _, _, _, _, _, _, _, wp, wf⟩ R hR => ?_
  cbv
  try simp only [wp, (show ∀ n : Nat, _ = n from fun n => wf.2.2.2.2.2.2.2.2.2.2.2.2.2.1 (Int.ofNat n)), getL, takeL, dropL, TK.isAgg, reduceIte]
  refine ⟨fun _ => ?_, fun h => absurd h (by decide)⟩
  (refine Later.mk ?_; cbv; try simp only [wp, (show ∀ n : Nat, _ = n from fun n => wf.2.2.2.2.2.2.2.2.2.2.2.2.2.1 (Int.ofNat n)), (show _ = (0 : Nat) from wf.2.2.2.2.2.2.2.2.2.2.2.2.2.1 0), getL, takeL, dropL, TK.isAgg, reduceIte])
  refine ⟨by decide, (by (try simp only [wf, nc, nc', Int.toNat_natCast, bsz, ByteArray.size_append, List.length_cons, List.length_nil] at *); (try simp (disch := omega) only [w64, w32, wu8] at *); first | done | omega), ?_, ?_⟩
  · ((try simp only [wf, nc, nc', Int.toNat_natCast, bsz, ByteArray.size_append, List.length_cons, List.length_nil] at *); (try simp (disch := omega) only [w64, w32, wu8] at *))
    decide
  · ((try simp only [wf, nc, nc', Int.toNat_natCast, bsz, ByteArray.size_append, List.length_cons, List.length_nil] at *); (try simp (disch := omega) only [w64, w32, wu8] at *))
    exact hR _ _ _ (.d _) rfl
theorem fmt0 : VFun (P ()) 121 [.d (.int .i64 0), .d (.int .i64 10)] (fun r => r = .d (.str ⟨⟨[48]⟩⟩)) := by
  refine vfunO (Tf := fun {_} _ => fzT [] (T ())) (fun {_} => tabOk.frz []) [] 400 Tryd.func121 rfl (fun {_} => by kernel_rfl) rfl (Nat.le_of_ble_eq_true rfl) @fun ⟨_, _, _, _, _, _, _, _, _, _, _, _, _, _, _, _, _, _, _, _, _, _, _, _, _, _, _, _, _, _, _, _, _, _, _, _, _, _, wp, wf⟩ R hR => ?_
  cbv
  try simp only [wp, (show ∀ n : Nat, _ = n from fun n => wf.2.2.2.2.2.2.2.2.2.2.2.2.2.1 (Int.ofNat n)), getL, takeL, dropL, TK.isAgg, reduceIte]
  repeat' first | (with_reducible refine And.intro ?_ ?_) | intro c9 | (exact absurd c9 (by decide)) | (refine Later.mk ?_; cbv; try simp only [wp, (show ∀ n : Nat, _ = n from fun n => wf.2.2.2.2.2.2.2.2.2.2.2.2.2.1 (Int.ofNat n)), (show _ = (0 : Nat) from wf.2.2.2.2.2.2.2.2.2.2.2.2.2.1 0), getL, takeL, dropL, TK.isAgg, reduceIte])
  all_goals first
    | exact absurd c9 (by decide)
    | (refine small0.call ?_
       rintro _ rfl
       (cbv; try simp only [wp, (show ∀ n : Nat, _ = n from fun n => wf.2.2.2.2.2.2.2.2.2.2.2.2.2.1 (Int.ofNat n)), (show _ = (0 : Nat) from wf.2.2.2.2.2.2.2.2.2.2.2.2.2.1 0), getL, takeL, dropL, TK.isAgg, reduceIte])
       exact hR _ _ _ (.d _) rfl)
    | trace_state
theorem itoaI0 : VFun (P ()) 109 [.d (.int .i64 0)] (fun r => r = .d (.str ⟨⟨[48]⟩⟩)) := by
  refine vfunO (Tf := fun {_} _ => fzT [] (T ())) (fun {_} => tabOk.frz []) [] 400 Tryd.func109 rfl (fun {_} => by kernel_rfl) rfl (Nat.le_of_ble_eq_true rfl) @fun ⟨_, _, _, _, _, _, _, _, _, _, _, _, _, _, _, _, _, _, _, _, _, _, _, _, _, _, _, _, _, _, _, _, _, _, _, _, _, _, wp, wf⟩ R hR => ?_
  cbv
  try simp only [wp, (show ∀ n : Nat, _ = n from fun n => wf.2.2.2.2.2.2.2.2.2.2.2.2.2.1 (Int.ofNat n)), getL, takeL, dropL, TK.isAgg, reduceIte]
  refine fmt0.call ?_
  rintro _ rfl
  (cbv; try simp only [wp, (show ∀ n : Nat, _ = n from fun n => wf.2.2.2.2.2.2.2.2.2.2.2.2.2.1 (Int.ofNat n)), (show _ = (0 : Nat) from wf.2.2.2.2.2.2.2.2.2.2.2.2.2.1 0), getL, takeL, dropL, TK.isAgg, reduceIte])
  exact hR _ _ _ (.d _) rfl
theorem itoa0 : VFun (P ()) 95 [.d (.int .i64 0)] (fun r => r = .d (.str ⟨⟨[48]⟩⟩)) := by
  refine vfunO (Tf := fun {_} _ => fzT [] (T ())) (fun {_} => tabOk.frz []) [] 400 Tryd.func95 rfl (fun {_} => by kernel_rfl) rfl (Nat.le_of_ble_eq_true rfl) @fun ⟨_, _, _, _, _, _, _, _, _, _, _, _, _, _, _, _, _, _, _, _, _, _, _, _, _, _, _, _, _, _, _, _, _, _, _, _, _, _, wp, wf⟩ R hR => ?_
  cbv
  try simp only [wp, (show ∀ n : Nat, _ = n from fun n => wf.2.2.2.2.2.2.2.2.2.2.2.2.2.1 (Int.ofNat n)), getL, takeL, dropL, TK.isAgg, reduceIte]
  refine itoaI0.call ?_
  rintro _ rfl
  (cbv; try simp only [wp, (show ∀ n : Nat, _ = n from fun n => wf.2.2.2.2.2.2.2.2.2.2.2.2.2.1 (Int.ofNat n)), (show _ = (0 : Nat) from wf.2.2.2.2.2.2.2.2.2.2.2.2.2.1 0), getL, takeL, dropL, TK.isAgg, reduceIte])
  exact hR _ _ _ (.d _) rfl
theorem bel2 (x y : D) : Bel 1 (.tup [.d x, .d y]) := .tup _ (fun k hk => match k, hk with | 0, _ => .d _ | 1, _ => .d _)
theorem bWriteString {c s : ByteArray} {H : AHeap} {o : Nat} {R : A → AHeap → Prop} (hlim : c.size + s.size ≤ 140737488355328) (ho : getL H o .dead = .bld c)
    (hR : ∀ n c', n = (s.size : Int) → c' = c ++ s → R (.tup [.d (.int .i64 n), .d .nili]) (setL H o (.bld c'))) : CallW P 93 [.ptr o 0, .d (.str s)] H R :=
  CallW.of ((vc_WriteString (P := P ()) Tryd.bld166 Tryd.bldExtra rfl rfl c s hlim).bld (ds := [.str s]) (bel2 _ _) (fun _ => rfl) ho) (by rintro r H' ⟨rfl, rfl⟩; exact hR _ _ rfl rfl)
theorem bString {c : ByteArray} {H : AHeap} {o : Nat} {R : A → AHeap → Prop} (ho : getL H o .dead = .bld c)
    (hR : R (.d (.str c)) (setL H o (.bld c))) : CallW P 76 [.ptr o 0] H R :=
  CallW.of ((vc_String (P := P ()) Tryd.bld169 Tryd.bldExtra rfl rfl c).bld (ds := []) (.d _) (fun _ => rfl) ho) (by rintro r H' ⟨rfl, rfl⟩; exact hR)
theorem levels0 (g : Nat → Nat → D) (c : ByteArray) : VCalls (P ()) 94 [.ptr 0 0, .d (.sl 0 2 g)] [.bld c] (fun r H => r = .tup [] ∧ ∃ G, H = [.bld c] ++ G) := by
  refine VCalls_of_Wo (Tf := fun {_} _ => fzT [] (T ())) (fun {_} => tabOk.frz []) [] 400 Tryd.func94 rfl (fun {_} => by kernel_rfl) (Nat.le_of_ble_eq_true rfl) @fun ⟨_, _, _, _, _, _, _, _, _, _, _, _, _, _, _, _, _, _, _, _, _, _, _, _, _, _, _, _, _, _, _, _, _, _, _, _, _, _, wp, wf⟩ nH R hnH hR => ?_
  subst hnH
  cbv
  try simp only [wp, (show ∀ n : Nat, _ = n from fun n => wf.2.2.2.2.2.2.2.2.2.2.2.2.2.1 (Int.ofNat n)), getL, takeL, dropL, TK.isAgg, reduceIte]
  refine loopO (Tf := fun {_} _ => fzT [] (T ())) (fun {_} => tabOk.frz []) [] 400 (fun y : Unit => ⟨[.ptr 0 0, .d (.sl 0 2 g), .undef, .undef, .undef, .undef, .undef, .undef, .d (.sl 0 2 g), .d (.int .i64 0), .d (.int .i64 0), .undef, .undef, .undef, .undef, .undef, .undef, .undef, .undef, .undef, .undef, .undef, .undef, .undef, .undef, .undef, .undef, .undef, .undef, .undef, .undef, .undef, .undef, .undef, .undef], [.bld c]⟩) (fun y => 0) (fun y => True) () trivial (fun {_} => by kernel_rfl) ?_ (fun i => by kernel_rfl) @fun ⟨_, _, _, _, _, _, _, _, _, _, _, _, _, _, _, _, _, _, _, _, _, _, _, _, _, _, _, _, _, _, _, _, _, _, _, _, _, _, wpa, wfa⟩ _ Bk hi hBk => ?_
  · ((cbv; try simp only [wf, exD, exL, exT, exB, exA, leLs, leL_d, leL_undef, leL_nils, leA_nils, deq_refl, deq_int, deq_bool, deq_str, and_true, true_and, AObj.iter.injEq, nc, nc']; try simp (disch := omega) only [w64, w32, wu8]); first | done | rfl | omega | (simp; done) | (simp; omega) | skip)
  (cbv; try simp only [wp, (show ∀ n : Nat, _ = n from fun n => wf.2.2.2.2.2.2.2.2.2.2.2.2.2.1 (Int.ofNat n)), (show _ = (0 : Nat) from wf.2.2.2.2.2.2.2.2.2.2.2.2.2.1 0), wpa, (show ∀ n : Nat, _ = n from fun n => wfa.2.2.2.2.2.2.2.2.2.2.2.2.2.1 (Int.ofNat n)), (show _ = (0 : Nat) from wfa.2.2.2.2.2.2.2.2.2.2.2.2.2.1 0), getL, takeL, dropL, TK.isAgg, reduceIte])
  refine ⟨fun e => ?_, fun e => ?_⟩
  · exact absurd e (by (try simp only [wf, wfa, nc, nc', Int.toNat_natCast, bsz, ByteArray.size_append, List.length_cons, List.length_nil] at *); (try simp (disch := omega) only [w64, w32, wu8] at *); first | done | omega)
  · (refine Later.mk ?_; cbv; try simp only [wp, (show ∀ n : Nat, _ = n from fun n => wf.2.2.2.2.2.2.2.2.2.2.2.2.2.1 (Int.ofNat n)), (show _ = (0 : Nat) from wf.2.2.2.2.2.2.2.2.2.2.2.2.2.1 0), wpa, (show ∀ n : Nat, _ = n from fun n => wfa.2.2.2.2.2.2.2.2.2.2.2.2.2.1 (Int.ofNat n)), (show _ = (0 : Nat) from wfa.2.2.2.2.2.2.2.2.2.2.2.2.2.1 0), getL, takeL, dropL, TK.isAgg, reduceIte])
    repeat' first | (with_reducible refine And.intro ?_ ?_) | intro c9 | (refine Later.mk ?_; cbv; try simp only [wp, (show ∀ n : Nat, _ = n from fun n => wf.2.2.2.2.2.2.2.2.2.2.2.2.2.1 (Int.ofNat n)), (show _ = (0 : Nat) from wf.2.2.2.2.2.2.2.2.2.2.2.2.2.1 0), wpa, (show ∀ n : Nat, _ = n from fun n => wfa.2.2.2.2.2.2.2.2.2.2.2.2.2.1 (Int.ofNat n)), (show _ = (0 : Nat) from wfa.2.2.2.2.2.2.2.2.2.2.2.2.2.1 0), getL, takeL, dropL, TK.isAgg, reduceIte])
    all_goals first
      | exact hR _ _ ⟨rfl, [], rfl⟩
      | exact absurd c9 (by (try simp only [wf, wfa, nc, nc', Int.toNat_natCast, bsz, ByteArray.size_append, List.length_cons, List.length_nil] at *); (try simp (disch := omega) only [w64, w32, wu8] at *); first | done | omega)
theorem ba_empty (a : ByteArray) : a ++ (⟨⟨[]⟩⟩ : ByteArray) = a := ByteArray.ext (by simp [ByteArray.data_append])
/-- the bits of what an Op uses, as closed numbers -/
theorem wUnit (c : ByteArray) (hc : c.size ≤ 1000) : VCalls (P ()) 75 [.ptr 0 0, tml 12 0 ByteArray.empty 0 (fun _ => 0) (fun _ => 0) (fun _ _ => 0) (fun _ _ => 0) 0 (fun _ _ => .nilp)] [.bld c] (fun r H => r = .tup [] ∧ ∃ G, H = [.bld (c ++ ⟨⟨[117, 110, 105, 116]⟩⟩)] ++ G) := by
  refine VCalls_of_Wl (Tf := fun {_} _ => fzT [3] (T ())) (fun {_} => tabOk.frz [3]) [] 400 Tryd.func75 rfl (fun {_} => by kernel_rfl) (Nat.le_of_ble_eq_true rfl) @fun ⟨_, _, _, _, _, _, _, _, _, _, _, _, _, _, _, _, _, _, _, _, _, _, _, _, _, _, _, _, _, _, _, _, _, _, _, _, _, _, wp, wf⟩ nH R hnH hR => ?_
  subst hnH
  cbv
  try simp only [wp, (show ∀ n : Nat, _ = n from fun n => wf.2.2.2.2.2.2.2.2.2.2.2.2.2.1 (Int.ofNat n)), getL, takeL, dropL, TK.isAgg, reduceIte]
  refine of_12.call ?_
  rintro _ rfl
  (cbv; try simp only [wp, (show ∀ n : Nat, _ = n from fun n => wf.2.2.2.2.2.2.2.2.2.2.2.2.2.1 (Int.ofNat n)), (show _ = (0 : Nat) from wf.2.2.2.2.2.2.2.2.2.2.2.2.2.1 0), getL, takeL, dropL, TK.isAgg, reduceIte])
  have wb := fun y => wf.2.2.2.2.2.2.2.2.1 BinOp.and IntKind.i64 0 y
  have e2 : bitF .and .i64 0 2 = 0 := by decide
  have e8 : bitF .and .i64 0 8 = 0 := by decide
  have w2 := (wb 2).trans e2
  have w8 := (wb 8).trans e8
  repeat' first | (with_reducible refine And.intro ?_ ?_) | intro c9 | contradiction | (refine Later.mk ?_; cbv; try simp only [wp, (show ∀ n : Nat, _ = n from fun n => wf.2.2.2.2.2.2.2.2.2.2.2.2.2.1 (Int.ofNat n)), (show _ = (0 : Nat) from wf.2.2.2.2.2.2.2.2.2.2.2.2.2.1 0), getL, takeL, dropL, TK.isAgg, reduceIte])
  refine bWriteString (by have : (⟨⟨[117, 110, 105, 116]⟩⟩ : ByteArray).size = 4 := rfl; omega) rfl ?_
  intro n1 c1 h1 h2
  clear h1
  (cbv; try simp only [wp, (show ∀ n : Nat, _ = n from fun n => wf.2.2.2.2.2.2.2.2.2.2.2.2.2.1 (Int.ofNat n)), (show _ = (0 : Nat) from wf.2.2.2.2.2.2.2.2.2.2.2.2.2.1 0), getL, takeL, dropL, TK.isAgg, reduceIte])
  refine bWriteString (by rw [h2, ByteArray.size_append]; have : (⟨⟨[117, 110, 105, 116]⟩⟩ : ByteArray).size = 4 := rfl; have : (⟨⟨[]⟩⟩ : ByteArray).size = 0 := rfl; omega) rfl ?_
  intro n1 c2 h1 h3
  clear h1
  (cbv; try simp only [wp, (show ∀ n : Nat, _ = n from fun n => wf.2.2.2.2.2.2.2.2.2.2.2.2.2.1 (Int.ofNat n)), (show _ = (0 : Nat) from wf.2.2.2.2.2.2.2.2.2.2.2.2.2.1 0), getL, takeL, dropL, TK.isAgg, reduceIte])
  refine CallW.within (levels0 _ c2) [0] rfl ⟨rfl, trivial⟩ rfl ?_
  rintro _ _ ⟨rfl, G, rfl⟩
  refine ⟨[.bld c2], G, rfl, Nat.le_refl _, ⟨trivial, trivial⟩, rfl, ?_⟩
  (cbv; try simp only [wp, (show ∀ n : Nat, _ = n from fun n => wf.2.2.2.2.2.2.2.2.2.2.2.2.2.1 (Int.ofNat n)), (show _ = (0 : Nat) from wf.2.2.2.2.2.2.2.2.2.2.2.2.2.1 0), getL, takeL, dropL, TK.isAgg, reduceIte])
  repeat' first | (with_reducible refine And.intro ?_ ?_) | intro c9 | contradiction | (refine Later.mk ?_; cbv; try simp only [wp, (show ∀ n : Nat, _ = n from fun n => wf.2.2.2.2.2.2.2.2.2.2.2.2.2.1 (Int.ofNat n)), (show _ = (0 : Nat) from wf.2.2.2.2.2.2.2.2.2.2.2.2.2.1 0), getL, takeL, dropL, TK.isAgg, reduceIte])
  all_goals exact hR _ _ ⟨rfl, [_], by rw [h3, h2, ba_empty]; rfl⟩
/-- the variable 0 -/
theorem wVar (c : ByteArray) (hc : c.size ≤ 1000) : VCalls (P ()) 75 [.ptr 0 0, tml 1 0 ByteArray.empty 0 (fun _ => 0) (fun _ => 0) (fun _ _ => 0) (fun _ _ => 0) 0 (fun _ _ => .nilp)] [.bld c] (fun r H => r = .tup [] ∧ ∃ G, H = [.bld (c ++ ⟨⟨[35]⟩⟩ ++ ⟨⟨[48]⟩⟩)] ++ G) := by
  refine VCalls_of_Wl (Tf := fun {_} _ => fzT [3] (T ())) (fun {_} => tabOk.frz [3]) [] 400 Tryd.func75 rfl (fun {_} => by kernel_rfl) (Nat.le_of_ble_eq_true rfl) @fun ⟨_, _, _, _, _, _, _, _, _, _, _, _, _, _, _, _, _, _, _, _, _, _, _, _, _, _, _, _, _, _, _, _, _, _, _, _, _, _, wp, wf⟩ nH R hnH hR => ?_
  subst hnH
  cbv
  try simp only [wp, (show ∀ n : Nat, _ = n from fun n => wf.2.2.2.2.2.2.2.2.2.2.2.2.2.1 (Int.ofNat n)), getL, takeL, dropL, TK.isAgg, reduceIte]
  refine of_1.call ?_
  rintro _ rfl
  (cbv; try simp only [wp, (show ∀ n : Nat, _ = n from fun n => wf.2.2.2.2.2.2.2.2.2.2.2.2.2.1 (Int.ofNat n)), (show _ = (0 : Nat) from wf.2.2.2.2.2.2.2.2.2.2.2.2.2.1 0), getL, takeL, dropL, TK.isAgg, reduceIte])
  have wb := fun y => wf.2.2.2.2.2.2.2.2.1 BinOp.and IntKind.i64 8 y
  have e2 : bitF .and .i64 8 2 = 0 := by decide
  have e8 : bitF .and .i64 8 8 = 8 := by decide
  have w2 := (wb 2).trans e2
  have w8 := (wb 8).trans e8
  have z1 : (⟨⟨[35]⟩⟩ : ByteArray).size = 1 := rfl
  have z0 : (⟨⟨[]⟩⟩ : ByteArray).size = 0 := rfl
  have z2 : (⟨⟨[48]⟩⟩ : ByteArray).size = 1 := rfl
  repeat' first | (with_reducible refine And.intro ?_ ?_) | intro c9 | contradiction | (refine Later.mk ?_; cbv; try simp only [wp, (show ∀ n : Nat, _ = n from fun n => wf.2.2.2.2.2.2.2.2.2.2.2.2.2.1 (Int.ofNat n)), (show _ = (0 : Nat) from wf.2.2.2.2.2.2.2.2.2.2.2.2.2.1 0), getL, takeL, dropL, TK.isAgg, reduceIte])
  refine bWriteString (by omega) rfl ?_
  intro n1 c1 h1 h2
  clear h1
  have s1 : c1.size = c.size + 1 := by rw [h2, ByteArray.size_append]; omega
  (cbv; try simp only [wp, (show ∀ n : Nat, _ = n from fun n => wf.2.2.2.2.2.2.2.2.2.2.2.2.2.1 (Int.ofNat n)), (show _ = (0 : Nat) from wf.2.2.2.2.2.2.2.2.2.2.2.2.2.1 0), getL, takeL, dropL, TK.isAgg, reduceIte])
  refine bWriteString (by omega) rfl ?_
  intro n1 c2 h1 h3
  clear h1
  rw [ba_empty] at h3
  (cbv; try simp only [wp, (show ∀ n : Nat, _ = n from fun n => wf.2.2.2.2.2.2.2.2.2.2.2.2.2.1 (Int.ofNat n)), (show _ = (0 : Nat) from wf.2.2.2.2.2.2.2.2.2.2.2.2.2.1 0), getL, takeL, dropL, TK.isAgg, reduceIte])
  refine CallW.within (levels0 _ c2) [0] rfl ⟨rfl, trivial⟩ rfl ?_
  rintro _ _ ⟨rfl, G, rfl⟩
  refine ⟨[.bld c2], G, rfl, Nat.le_refl _, ⟨trivial, trivial⟩, rfl, ?_⟩
  (cbv; try simp only [wp, (show ∀ n : Nat, _ = n from fun n => wf.2.2.2.2.2.2.2.2.2.2.2.2.2.1 (Int.ofNat n)), (show _ = (0 : Nat) from wf.2.2.2.2.2.2.2.2.2.2.2.2.2.1 0), getL, takeL, dropL, TK.isAgg, reduceIte])
  repeat' first | (with_reducible refine And.intro ?_ ?_) | intro c9 | contradiction | (exfalso; omega) | (refine Later.mk ?_; cbv; try simp only [wp, (show ∀ n : Nat, _ = n from fun n => wf.2.2.2.2.2.2.2.2.2.2.2.2.2.1 (Int.ofNat n)), (show _ = (0 : Nat) from wf.2.2.2.2.2.2.2.2.2.2.2.2.2.1 0), getL, takeL, dropL, TK.isAgg, reduceIte])
  refine itoa0.call ?_
  rintro _ rfl
  (cbv; try simp only [wp, (show ∀ n : Nat, _ = n from fun n => wf.2.2.2.2.2.2.2.2.2.2.2.2.2.1 (Int.ofNat n)), (show _ = (0 : Nat) from wf.2.2.2.2.2.2.2.2.2.2.2.2.2.1 0), getL, takeL, dropL, TK.isAgg, reduceIte])
  refine bWriteString (by rw [h3]; omega) rfl ?_
  intro n1 c3 h1 h4
  (cbv; try simp only [wp, (show ∀ n : Nat, _ = n from fun n => wf.2.2.2.2.2.2.2.2.2.2.2.2.2.1 (Int.ofNat n)), (show _ = (0 : Nat) from wf.2.2.2.2.2.2.2.2.2.2.2.2.2.1 0), getL, takeL, dropL, TK.isAgg, reduceIte])
  repeat' first | (with_reducible refine And.intro ?_ ?_) | intro c9 | contradiction | (exfalso; omega) | (refine Later.mk ?_; cbv; try simp only [wp, (show ∀ n : Nat, _ = n from fun n => wf.2.2.2.2.2.2.2.2.2.2.2.2.2.1 (Int.ofNat n)), (show _ = (0 : Nat) from wf.2.2.2.2.2.2.2.2.2.2.2.2.2.1 0), getL, takeL, dropL, TK.isAgg, reduceIte])
  all_goals exact hR _ _ ⟨rfl, [_], by rw [h4, h3, h2]; rfl⟩
theorem bWriteByte {c : ByteArray} {H : AHeap} {o : Nat} {R : A → AHeap → Prop} (x : UInt8) (n : Int) (hx : n = x.toNat) (hlim : c.size + 1 ≤ 140737488355328) (ho : getL H o .dead = .bld c)
    (hR : ∀ c', c' = c ++ ⟨#[x]⟩ → R (.d .nili) (setL H o (.bld c'))) : CallW P 97 [.ptr o 0, .d (.int .u8 n)] H R :=
  CallW.of ((vc_WriteByte (P := P ()) Tryd.bld167 Tryd.bldExtra rfl rfl c x n hx hlim).bld (ds := [.int .u8 n]) (.d _) (fun _ => rfl) ho) (by rintro r H' ⟨rfl, rfl⟩; exact hR _ rfl)
/-- the rows of two parts -/
def rowsI (i j : Nat) : D := match j with
  | 0 => .int .i64 (if i = 0 then 12 else 1)
  | 1 => .int .i64 0
  | 2 => .str ByteArray.empty
  | 3 => .sl 0 2 (lsF (fun _ => 0) (fun _ => 0) (fun _ _ => 0) (fun _ _ => 0))
  | _ => .sl 0 5 (fun _ _ => .nilp)
theorem wLam (c : ByteArray) (hc : c.size ≤ 900) : VCalls (P ()) 75 [.ptr 0 0, tml 6 0 ByteArray.empty 0 (fun _ => 0) (fun _ => 0) (fun _ _ => 0) (fun _ _ => 0) 2 rowsI] [.bld c] (fun r H => r = .tup [] ∧ ∃ G, H = [.bld (c ++ ⟨⟨[40]⟩⟩ ++ ⟨⟨[108, 97, 109]⟩⟩ ++ ⟨⟨[32, 48]⟩⟩ ++ ⟨⟨[32, 117, 110, 105, 116, 32, 35, 48, 41]⟩⟩)] ++ G) := by
  refine VCalls_of_Wl (Tf := fun {_} _ => fzT [3] (T ())) (fun {_} => tabOk.frz [3]) [] 400 Tryd.func75 rfl (fun {_} => by kernel_rfl) (Nat.le_of_ble_eq_true rfl) @fun ⟨_, _, _, _, _, _, _, _, _, _, _, _, _, _, _, _, _, _, _, _, _, _, _, _, _, _, _, _, _, _, _, _, _, _, _, _, _, _, wp, wf⟩ nH R hnH hR => ?_
  subst hnH
  cbv
  try simp only [wp, (show ∀ n : Nat, _ = n from fun n => wf.2.2.2.2.2.2.2.2.2.2.2.2.2.1 (Int.ofNat n)), getL, takeL, dropL, TK.isAgg, reduceIte]
  refine of_6.call ?_
  rintro _ rfl
  (cbv; try simp only [wp, (show ∀ n : Nat, _ = n from fun n => wf.2.2.2.2.2.2.2.2.2.2.2.2.2.1 (Int.ofNat n)), (show _ = (0 : Nat) from wf.2.2.2.2.2.2.2.2.2.2.2.2.2.1 0), getL, takeL, dropL, TK.isAgg, reduceIte])
  have wb := fun y => wf.2.2.2.2.2.2.2.2.1 BinOp.and IntKind.i64 32 y
  have e2 : bitF .and .i64 32 2 = 0 := by decide
  have e1 : bitF .and .i64 32 1 = 0 := by decide
  have e112 : bitF .and .i64 32 112 = 32 := by decide
  have w2 := (wb 2).trans e2
  have w1 := (wb 1).trans e1
  have w112 := (wb 112).trans e112
  repeat' first | (with_reducible refine And.intro ?_ ?_) | intro c9 | contradiction | (exfalso; omega) | (refine Later.mk ?_; cbv; try simp only [wp, (show ∀ n : Nat, _ = n from fun n => wf.2.2.2.2.2.2.2.2.2.2.2.2.2.1 (Int.ofNat n)), (show _ = (0 : Nat) from wf.2.2.2.2.2.2.2.2.2.2.2.2.2.1 0), getL, takeL, dropL, TK.isAgg, reduceIte])
  all_goals first | (show _ ≤ _; ((try simp only [wf, nc, nc', Int.toNat_natCast, bsz, ByteArray.size_append, List.length_cons, List.length_nil] at *); (try simp (disch := omega) only [w64, w32, wu8] at *)); decide) | skip
  have hcat := wf.2.2.2.2.2.2.2.2.2.2.2.2.2.2.2.2.1 ⟨⟨[40]⟩⟩ ⟨⟨[108, 97, 109]⟩⟩
  have z4 : ((⟨⟨[40]⟩⟩ : ByteArray) ++ ⟨⟨[108, 97, 109]⟩⟩).size = 4 := rfl
  refine bWriteString (by rw [hcat]; omega) rfl ?_
  intro n1 c1 h1 h2
  rw [hcat] at h2
  clear h1
  have s1 : c1.size = c.size + 4 := by rw [h2, ByteArray.size_append]; omega
  (cbv; try simp only [wp, (show ∀ n : Nat, _ = n from fun n => wf.2.2.2.2.2.2.2.2.2.2.2.2.2.1 (Int.ofNat n)), (show _ = (0 : Nat) from wf.2.2.2.2.2.2.2.2.2.2.2.2.2.1 0), getL, takeL, dropL, TK.isAgg, reduceIte])
  repeat' first | (with_reducible refine And.intro ?_ ?_) | intro c9 | contradiction | (exfalso; omega) | (refine Later.mk ?_; cbv; try simp only [wp, (show ∀ n : Nat, _ = n from fun n => wf.2.2.2.2.2.2.2.2.2.2.2.2.2.1 (Int.ofNat n)), (show _ = (0 : Nat) from wf.2.2.2.2.2.2.2.2.2.2.2.2.2.1 0), getL, takeL, dropL, TK.isAgg, reduceIte])
  refine itoa0.call ?_
  rintro _ rfl
  (cbv; try simp only [wp, (show ∀ n : Nat, _ = n from fun n => wf.2.2.2.2.2.2.2.2.2.2.2.2.2.1 (Int.ofNat n)), (show _ = (0 : Nat) from wf.2.2.2.2.2.2.2.2.2.2.2.2.2.1 0), getL, takeL, dropL, TK.isAgg, reduceIte])
  repeat' first | (with_reducible refine And.intro ?_ ?_) | intro c9 | contradiction | (exfalso; omega) | (refine Later.mk ?_; cbv; try simp only [wp, (show ∀ n : Nat, _ = n from fun n => wf.2.2.2.2.2.2.2.2.2.2.2.2.2.1 (Int.ofNat n)), (show _ = (0 : Nat) from wf.2.2.2.2.2.2.2.2.2.2.2.2.2.1 0), getL, takeL, dropL, TK.isAgg, reduceIte])
  all_goals first | (show _ ≤ _; ((try simp only [wf, nc, nc', Int.toNat_natCast, bsz, ByteArray.size_append, List.length_cons, List.length_nil] at *); (try simp (disch := omega) only [w64, w32, wu8] at *)); decide) | skip
  have hcat2 := wf.2.2.2.2.2.2.2.2.2.2.2.2.2.2.2.2.1 ⟨⟨[32]⟩⟩ ⟨⟨[48]⟩⟩
  have z5 : ((⟨⟨[32]⟩⟩ : ByteArray) ++ ⟨⟨[48]⟩⟩).size = 2 := rfl
  refine bWriteString (by rw [hcat2]; omega) rfl ?_
  intro n1 c2 h1 h3
  rw [hcat2] at h3
  clear h1
  have s2 : c2.size = c.size + 6 := by rw [h3, ByteArray.size_append]; omega
  (cbv; try simp only [wp, (show ∀ n : Nat, _ = n from fun n => wf.2.2.2.2.2.2.2.2.2.2.2.2.2.1 (Int.ofNat n)), (show _ = (0 : Nat) from wf.2.2.2.2.2.2.2.2.2.2.2.2.2.1 0), getL, takeL, dropL, TK.isAgg, reduceIte])
  repeat' first | (with_reducible refine And.intro ?_ ?_) | intro c9 | contradiction | (exfalso; omega) | (refine Later.mk ?_; cbv; try simp only [wp, (show ∀ n : Nat, _ = n from fun n => wf.2.2.2.2.2.2.2.2.2.2.2.2.2.1 (Int.ofNat n)), (show _ = (0 : Nat) from wf.2.2.2.2.2.2.2.2.2.2.2.2.2.1 0), getL, takeL, dropL, TK.isAgg, reduceIte])
  obtain ⟨cs, k0, k1, k2⟩ : ∃ cs : Nat → ByteArray, cs 0 = c2 ∧ cs 1 = c2 ++ ⟨#[32]⟩ ++ ⟨⟨[117, 110, 105, 116]⟩⟩ ∧ cs 2 = c2 ++ ⟨#[32]⟩ ++ ⟨⟨[117, 110, 105, 116]⟩⟩ ++ ⟨#[32]⟩ ++ ⟨⟨[35]⟩⟩ ++ ⟨⟨[48]⟩⟩ :=
    ⟨fun i => match i with | 0 => c2 | 1 => c2 ++ ⟨#[32]⟩ ++ ⟨⟨[117, 110, 105, 116]⟩⟩ | _ => c2 ++ ⟨#[32]⟩ ++ ⟨⟨[117, 110, 105, 116]⟩⟩ ++ ⟨#[32]⟩ ++ ⟨⟨[35]⟩⟩ ++ ⟨⟨[48]⟩⟩, rfl, rfl, rfl⟩
  have y1 : (⟨#[32]⟩ : ByteArray).size = 1 := rfl
  have y2 : (⟨⟨[117, 110, 105, 116]⟩⟩ : ByteArray).size = 4 := rfl
  have y3 : (⟨⟨[35]⟩⟩ : ByteArray).size = 1 := rfl
  have y4 : (⟨⟨[48]⟩⟩ : ByteArray).size = 1 := rfl
  refine loopL (Tf := fun {_} _ => fzT [3] (T ())) (fun {_} => tabOk.frz [3]) [] 400 (fun y : Nat => ⟨[.ptr 0 0, .undef, .undef, .undef, .undef, .undef, .undef, .undef, .undef, .undef, .undef, .undef, .undef, .undef, .undef, .undef, .undef, .undef, .undef, .undef, .undef, .undef, .undef, .undef, .undef, .undef, .undef, .undef, .undef, .undef, .undef, .undef, .undef, .undef, .undef, .undef, .undef, .undef, .undef, .undef, .undef, .undef, .undef, .undef, .undef, .undef, .undef, .undef, .undef, .undef, .undef, .undef, .undef, .undef, .undef, .undef, .undef, .undef, .undef, .undef, .undef, .undef, .undef, .undef, .undef, .undef, .undef, .undef, .undef, .undef, .undef, .undef, .undef, .undef, .undef, .undef, .undef, .undef, .undef, .undef, .undef, .undef, .undef, .undef, .undef, .undef, .undef, .undef, .undef, .undef, .undef, .d (.sl 2 5 rowsI), .d (.int .i64 2), .d (.int .i64 y), .undef, .undef, .undef, .undef, .undef, .undef, .undef, .undef, .undef, .undef, .undef], [.bld (cs y)]⟩) (fun y => 2 - y) (fun y => y ≤ 2) 0 (by decide) (fun {_} => by kernel_rfl) ?_ (fun i => by kernel_rfl) @fun ⟨_, _, _, _, _, _, _, _, _, _, _, _, _, _, _, _, _, _, _, _, _, _, _, _, _, _, _, _, _, _, _, _, _, _, _, _, _, _, wpa, wfa⟩ y Bk hi hBk => ?_
  · (cbv; try simp only [wf, exD, exL, exT, exB, exA, leLs, leL_d, leL_undef, leL_nils, leA_nils, deq_refl, deq_int, deq_bool, deq_str, and_true, true_and, AObj.iter.injEq, nc, nc']; try simp (disch := omega) only [w64, w32, wu8])
    exact ⟨⟨rfl, rfl⟩, by rw [k0]⟩
  have hy : y = 0 ∨ y = 1 ∨ y = 2 := by omega
  clear hi
  rcases hy with rfl | rfl | rfl
  · (cbv; try simp only [wp, (show ∀ n : Nat, _ = n from fun n => wf.2.2.2.2.2.2.2.2.2.2.2.2.2.1 (Int.ofNat n)), (show _ = (0 : Nat) from wf.2.2.2.2.2.2.2.2.2.2.2.2.2.1 0), wpa, (show ∀ n : Nat, _ = n from fun n => wfa.2.2.2.2.2.2.2.2.2.2.2.2.2.1 (Int.ofNat n)), (show _ = (0 : Nat) from wfa.2.2.2.2.2.2.2.2.2.2.2.2.2.1 0), getL, takeL, dropL, TK.isAgg, reduceIte])
    refine ⟨fun _ => ?_, fun h => absurd h (by decide)⟩
    repeat' first | (with_reducible refine And.intro ?_ ?_) | intro c9 | (refine Later.mk ?_; cbv; try simp only [wp, (show ∀ n : Nat, _ = n from fun n => wf.2.2.2.2.2.2.2.2.2.2.2.2.2.1 (Int.ofNat n)), (show _ = (0 : Nat) from wf.2.2.2.2.2.2.2.2.2.2.2.2.2.1 0), wpa, (show ∀ n : Nat, _ = n from fun n => wfa.2.2.2.2.2.2.2.2.2.2.2.2.2.1 (Int.ofNat n)), (show _ = (0 : Nat) from wfa.2.2.2.2.2.2.2.2.2.2.2.2.2.1 0), getL, takeL, dropL, TK.isAgg, reduceIte])
    all_goals first | exact (by (try simp only [wf, wfa, nc, nc', Int.toNat_natCast, bsz, ByteArray.size_append, List.length_cons, List.length_nil] at *); (try simp (disch := omega) only [w64, w32, wu8] at *); first | done | omega) | skip
    rw [k0]
    refine bWriteByte 32 32 rfl (by omega) rfl ?_
    intro c3 h4
    have s3 : c3.size = c2.size + 1 := by rw [h4, ByteArray.size_append]; rfl
    (cbv; try simp only [wp, (show ∀ n : Nat, _ = n from fun n => wf.2.2.2.2.2.2.2.2.2.2.2.2.2.1 (Int.ofNat n)), (show _ = (0 : Nat) from wf.2.2.2.2.2.2.2.2.2.2.2.2.2.1 0), wpa, (show ∀ n : Nat, _ = n from fun n => wfa.2.2.2.2.2.2.2.2.2.2.2.2.2.1 (Int.ofNat n)), (show _ = (0 : Nat) from wfa.2.2.2.2.2.2.2.2.2.2.2.2.2.1 0), getL, takeL, dropL, TK.isAgg, reduceIte])
    refine CallW.within (wUnit c3 (by omega)) [0] rfl ⟨rfl, trivial⟩ rfl ?_
    rintro _ _ ⟨rfl, G, rfl⟩
    refine ⟨[.bld (c3 ++ ⟨⟨[117, 110, 105, 116]⟩⟩)], G, rfl, Nat.le_refl _, ⟨trivial, trivial⟩, rfl, ?_⟩
    obtain ⟨c4, h5⟩ : ∃ c4, c4 = c3 ++ ⟨⟨[117, 110, 105, 116]⟩⟩ := ⟨_, rfl⟩
    rw [← h5]
    (cbv; try simp only [wp, (show ∀ n : Nat, _ = n from fun n => wf.2.2.2.2.2.2.2.2.2.2.2.2.2.1 (Int.ofNat n)), (show _ = (0 : Nat) from wf.2.2.2.2.2.2.2.2.2.2.2.2.2.1 0), wpa, (show ∀ n : Nat, _ = n from fun n => wfa.2.2.2.2.2.2.2.2.2.2.2.2.2.1 (Int.ofNat n)), (show _ = (0 : Nat) from wfa.2.2.2.2.2.2.2.2.2.2.2.2.2.1 0), getL, takeL, dropL, TK.isAgg, reduceIte])
    refine hBk 1 _ (by decide) (by decide) ?_
    (cbv; try simp only [wf, wfa, exD, exL, exT, exB, exA, leLs, leL_d, leL_undef, leL_nils, leA_nils, deq_refl, deq_int, deq_bool, deq_str, and_true, true_and, AObj.iter.injEq, nc, nc']; try simp (disch := omega) only [w64, w32, wu8])
    exact ⟨rfl, by rw [k1, h5, h4]⟩
  · (cbv; try simp only [wp, (show ∀ n : Nat, _ = n from fun n => wf.2.2.2.2.2.2.2.2.2.2.2.2.2.1 (Int.ofNat n)), (show _ = (0 : Nat) from wf.2.2.2.2.2.2.2.2.2.2.2.2.2.1 0), wpa, (show ∀ n : Nat, _ = n from fun n => wfa.2.2.2.2.2.2.2.2.2.2.2.2.2.1 (Int.ofNat n)), (show _ = (0 : Nat) from wfa.2.2.2.2.2.2.2.2.2.2.2.2.2.1 0), getL, takeL, dropL, TK.isAgg, reduceIte])
    refine ⟨fun _ => ?_, fun h => absurd h (by decide)⟩
    repeat' first | (with_reducible refine And.intro ?_ ?_) | intro c9 | (refine Later.mk ?_; cbv; try simp only [wp, (show ∀ n : Nat, _ = n from fun n => wf.2.2.2.2.2.2.2.2.2.2.2.2.2.1 (Int.ofNat n)), (show _ = (0 : Nat) from wf.2.2.2.2.2.2.2.2.2.2.2.2.2.1 0), wpa, (show ∀ n : Nat, _ = n from fun n => wfa.2.2.2.2.2.2.2.2.2.2.2.2.2.1 (Int.ofNat n)), (show _ = (0 : Nat) from wfa.2.2.2.2.2.2.2.2.2.2.2.2.2.1 0), getL, takeL, dropL, TK.isAgg, reduceIte])
    all_goals first | exact (by (try simp only [wf, wfa, nc, nc', Int.toNat_natCast, bsz, ByteArray.size_append, List.length_cons, List.length_nil] at *); (try simp (disch := omega) only [w64, w32, wu8] at *); first | done | omega) | skip
    rw [k1]
    obtain ⟨c5, h6⟩ : ∃ c5, c5 = c2 ++ ⟨#[32]⟩ ++ ⟨⟨[117, 110, 105, 116]⟩⟩ := ⟨_, rfl⟩
    have s5 : c5.size = c2.size + 5 := by rw [h6, ByteArray.size_append, ByteArray.size_append]; rfl
    rw [← h6]
    refine bWriteByte 32 32 rfl (by omega) rfl ?_
    intro c3 h4
    have s3 : c3.size = c5.size + 1 := by rw [h4, ByteArray.size_append]; rfl
    (cbv; try simp only [wp, (show ∀ n : Nat, _ = n from fun n => wf.2.2.2.2.2.2.2.2.2.2.2.2.2.1 (Int.ofNat n)), (show _ = (0 : Nat) from wf.2.2.2.2.2.2.2.2.2.2.2.2.2.1 0), wpa, (show ∀ n : Nat, _ = n from fun n => wfa.2.2.2.2.2.2.2.2.2.2.2.2.2.1 (Int.ofNat n)), (show _ = (0 : Nat) from wfa.2.2.2.2.2.2.2.2.2.2.2.2.2.1 0), getL, takeL, dropL, TK.isAgg, reduceIte])
    refine CallW.within (wVar c3 (by omega)) [0] rfl ⟨rfl, trivial⟩ rfl ?_
    rintro _ _ ⟨rfl, G, rfl⟩
    refine ⟨[.bld (c3 ++ ⟨⟨[35]⟩⟩ ++ ⟨⟨[48]⟩⟩)], G, rfl, Nat.le_refl _, ⟨trivial, trivial⟩, rfl, ?_⟩
    obtain ⟨c4, h5⟩ : ∃ c4, c4 = c3 ++ ⟨⟨[35]⟩⟩ ++ ⟨⟨[48]⟩⟩ := ⟨_, rfl⟩
    rw [← h5]
    (cbv; try simp only [wp, (show ∀ n : Nat, _ = n from fun n => wf.2.2.2.2.2.2.2.2.2.2.2.2.2.1 (Int.ofNat n)), (show _ = (0 : Nat) from wf.2.2.2.2.2.2.2.2.2.2.2.2.2.1 0), wpa, (show ∀ n : Nat, _ = n from fun n => wfa.2.2.2.2.2.2.2.2.2.2.2.2.2.1 (Int.ofNat n)), (show _ = (0 : Nat) from wfa.2.2.2.2.2.2.2.2.2.2.2.2.2.1 0), getL, takeL, dropL, TK.isAgg, reduceIte])
    refine hBk 2 _ (by decide) (by decide) ?_
    (cbv; try simp only [wf, wfa, exD, exL, exT, exB, exA, leLs, leL_d, leL_undef, leL_nils, leA_nils, deq_refl, deq_int, deq_bool, deq_str, and_true, true_and, AObj.iter.injEq, nc, nc']; try simp (disch := omega) only [w64, w32, wu8])
    exact ⟨rfl, by rw [k2, h5, h4, h6]⟩
  · (cbv; try simp only [wp, (show ∀ n : Nat, _ = n from fun n => wf.2.2.2.2.2.2.2.2.2.2.2.2.2.1 (Int.ofNat n)), (show _ = (0 : Nat) from wf.2.2.2.2.2.2.2.2.2.2.2.2.2.1 0), wpa, (show ∀ n : Nat, _ = n from fun n => wfa.2.2.2.2.2.2.2.2.2.2.2.2.2.1 (Int.ofNat n)), (show _ = (0 : Nat) from wfa.2.2.2.2.2.2.2.2.2.2.2.2.2.1 0), getL, takeL, dropL, TK.isAgg, reduceIte])
    refine ⟨fun h => absurd h (by decide), fun _ => ?_⟩
    have s5 : (cs 2).size ≤ 1000 := by rw [k2]; simp only [ByteArray.size_append]; omega
    obtain ⟨c5, h6⟩ : ∃ c5, c5 = cs 2 := ⟨_, rfl⟩
    rw [← h6] at s5 ⊢
    (refine Later.mk ?_; cbv; try simp only [wp, (show ∀ n : Nat, _ = n from fun n => wf.2.2.2.2.2.2.2.2.2.2.2.2.2.1 (Int.ofNat n)), (show _ = (0 : Nat) from wf.2.2.2.2.2.2.2.2.2.2.2.2.2.1 0), wpa, (show ∀ n : Nat, _ = n from fun n => wfa.2.2.2.2.2.2.2.2.2.2.2.2.2.1 (Int.ofNat n)), (show _ = (0 : Nat) from wfa.2.2.2.2.2.2.2.2.2.2.2.2.2.1 0), getL, takeL, dropL, TK.isAgg, reduceIte])
    refine bWriteByte 41 41 rfl (by omega) rfl ?_
    intro c6 h7
    (cbv; try simp only [wp, (show ∀ n : Nat, _ = n from fun n => wf.2.2.2.2.2.2.2.2.2.2.2.2.2.1 (Int.ofNat n)), (show _ = (0 : Nat) from wf.2.2.2.2.2.2.2.2.2.2.2.2.2.1 0), wpa, (show ∀ n : Nat, _ = n from fun n => wfa.2.2.2.2.2.2.2.2.2.2.2.2.2.1 (Int.ofNat n)), (show _ = (0 : Nat) from wfa.2.2.2.2.2.2.2.2.2.2.2.2.2.1 0), getL, takeL, dropL, TK.isAgg, reduceIte])
    have hfin : c6 = c ++ ⟨⟨[40]⟩⟩ ++ ⟨⟨[108, 97, 109]⟩⟩ ++ ⟨⟨[32, 48]⟩⟩ ++ ⟨⟨[32, 117, 110, 105, 116, 32, 35, 48, 41]⟩⟩ := by
      rw [h7, h6, k2, h3, h2]
      refine ByteArray.ext ?_
      simp [ByteArray.data_append]
    exact hR _ _ ⟨rfl, [], by rw [hfin]; rfl⟩
end Go.VM

namespace Go.VM
open Go.Proofs Go
set_option maxRecDepth 100000
set_option linter.unusedVariables false
set_option linter.unusedSimpArgs false
theorem InP_up {V P0 V' P' : Nat → Int} {k i : Nat} (h : InP V P0 k V' P' i) : InP V P0 (k + 1) V' P' i := by
  obtain ⟨j, h1, h2⟩ := h
  exact ⟨j, by omega, h2⟩
theorem InP_dn {V P0 V' P' : Nat → Int} {k i : Nat} (h : InP V P0 (k + 1) V' P' i) (hn : V' k = V i → P0 i ≤ P' k → False) : InP V P0 k V' P' i := by
  obtain ⟨j, h1, h2, h3⟩ := h
  by_cases e : j = k
  · subst e; exact (hn h2 h3).elim
  · exact ⟨j, by omega, h2, h3⟩
theorem RLeq (c c' : Int) (n n' : Nat) (V P0 V' P' : Nat → Int) (hn : n < 2 ^ 62) (hn' : n' < 2 ^ 62) : VFun (P ()) 113 [lv c n V P0, lv c' n' V' P'] (fun r => ∃ b : Bool, (b = true ↔ ValidP c n V P0 ∧ ValidP c' n' V' P' ∧ LeqP c n V P0 c' n' V' P') ∧ r = .d (.bool b)) := by
  refine vfunO (Tf := @T) @tabOk [(10, upF 0 28)] 400 Tryd.func113 rfl (fun {_} => by kernel_rfl) rfl (Nat.le_of_ble_eq_true rfl) @fun ⟨_, _, _, _, _, _, _, _, _, _, _, _, _, _, _, _, _, _, _, _, _, _, _, _, _, _, _, _, _, _, _, _, _, _, _, _, _, _, wp, wf⟩ R hR => ?_
  cbv
  try simp only [wp, (show ∀ n : Nat, _ = n from fun n => wf.2.2.2.2.2.2.2.2.2.2.2.2.2.1 (Int.ofNat n)), getL, takeL, dropL, TK.isAgg, reduceIte]
  replace hR := fun b H h => hR _ H _ (.d (.bool b)) ⟨b, h, rfl⟩
  repeat' first
    | trivial
    | with_reducible refine And.intro ?_ ?_
    | intro c9
    | (refine (RValid c n V P0 (by omega)).call ?_
       rintro _ ⟨b, hb, rfl⟩
       rcases hb.dich with ⟨rfl, v⟩ | ⟨rfl, v⟩ <;> clear hb <;> (cbv; try simp only [wp, (show ∀ n : Nat, _ = n from fun n => wf.2.2.2.2.2.2.2.2.2.2.2.2.2.1 (Int.ofNat n)), (show _ = (0 : Nat) from wf.2.2.2.2.2.2.2.2.2.2.2.2.2.1 0), getL, takeL, dropL, TK.isAgg, reduceIte]))
    | (refine (RValid c' n' V' P' (by omega)).call ?_
       rintro _ ⟨b, hb, rfl⟩
       rcases hb.dich with ⟨rfl, v'⟩ | ⟨rfl, v'⟩ <;> clear hb <;> (cbv; try simp only [wp, (show ∀ n : Nat, _ = n from fun n => wf.2.2.2.2.2.2.2.2.2.2.2.2.2.1 (Int.ofNat n)), (show _ = (0 : Nat) from wf.2.2.2.2.2.2.2.2.2.2.2.2.2.1 0), getL, takeL, dropL, TK.isAgg, reduceIte]))
    | (refine (least c n V P0 hn).call ?_
       rintro _ ⟨x, hx, rfl⟩
       (cbv; try simp only [wp, (show ∀ n : Nat, _ = n from fun n => wf.2.2.2.2.2.2.2.2.2.2.2.2.2.1 (Int.ofNat n)), (show _ = (0 : Nat) from wf.2.2.2.2.2.2.2.2.2.2.2.2.2.1 0), getL, takeL, dropL, TK.isAgg, reduceIte]))
    | (refine (least c' n' V' P' hn').call ?_
       rintro _ ⟨y, hy, rfl⟩
       (cbv; try simp only [wp, (show ∀ n : Nat, _ = n from fun n => wf.2.2.2.2.2.2.2.2.2.2.2.2.2.1 (Int.ofNat n)), (show _ = (0 : Nat) from wf.2.2.2.2.2.2.2.2.2.2.2.2.2.1 0), getL, takeL, dropL, TK.isAgg, reduceIte]))
    | ((refine Later.mk ?_; cbv; try simp only [wp, (show ∀ n : Nat, _ = n from fun n => wf.2.2.2.2.2.2.2.2.2.2.2.2.2.1 (Int.ofNat n)), (show _ = (0 : Nat) from wf.2.2.2.2.2.2.2.2.2.2.2.2.2.1 0), getL, takeL, dropL, TK.isAgg, reduceIte])
       exact hR _ _ (iffF fun h => (by first
         | exact v h.1
         | exact v' h.2.1
         | (have := ((LeqP_ref v.1 v'.1).1 h.2.2).1; omega))))
    | (refine Later.mk ?_; cbv; try simp only [wp, (show ∀ n : Nat, _ = n from fun n => wf.2.2.2.2.2.2.2.2.2.2.2.2.2.1 (Int.ofNat n)), (show _ = (0 : Nat) from wf.2.2.2.2.2.2.2.2.2.2.2.2.2.1 0), getL, takeL, dropL, TK.isAgg, reduceIte])
  all_goals
    have hle := LeqP_ref (c := c) (c' := c') (n := n) (n' := n') (V := V) (V' := V') (P := P0) (P' := P') v.1 v'.1
    have h0 : leastF P0 c n ≤ leastF P' c' n' := by omega
    have key : ∀ b : Bool, (b = true ↔ ∀ i, i < n → InP V P0 n' V' P' i) → (b = true ↔ ValidP c n V P0 ∧ ValidP c' n' V' P' ∧ LeqP c n V P0 c' n' V' P') := fun b hb => ⟨fun h => ⟨v, v', hle.2 ⟨h0, hb.1 h⟩⟩, fun h => hb.2 (hle.1 h.2.2).2⟩
    replace hR := fun b H h => hR b H (key b h)
    clear key hle h0 hx hy
    refine loopO (Tf := @T) @tabOk [(10, upF 0 28)] 400 (fun i : Nat => ⟨[lv c n V P0, lv c' n' V' P', .ptr 0 0, .ptr 1 0, .undef, .d (.int .i64 i), .undef, .undef, .undef, .undef, .undef, .undef, .undef, .undef, .undef, .undef, .undef, .undef, .undef, .undef, .undef, .undef, .undef, .undef, .undef, .undef, .undef, .undef, .undef, .undef, .undef, .undef, .undef, .undef, .undef, .undef, .undef, .undef, .undef, .undef, .undef, .undef, .undef, .undef, .undef, .undef, .undef, .undef, .undef, .undef, .undef, .undef, .undef, .undef, .undef, .undef, .undef, .undef, .undef, .undef, .undef, .undef, .undef, .undef, .undef, .undef, .undef], [.box [.d (.int .i64 c), .d (.sl n 2 (lvF V P0))], .box [.d (.int .i64 c'), .d (.sl n' 2 (lvF V' P'))]]⟩) (fun i => n - i) (fun i => i ≤ n ∧ ∀ k, k < i → InP V P0 n' V' P' k) 0 ⟨Nat.zero_le _, fun k hk => absurd hk (Nat.not_lt_zero _)⟩ (fun {_} => by kernel_rfl) ?_ (fun i => rfl) @fun ⟨_, _, _, _, _, _, _, _, _, _, _, _, _, _, _, _, _, _, _, _, _, _, _, _, _, _, _, _, _, _, _, _, _, _, _, _, _, _, wpa, wfa⟩ i Bk hi hBk => ?_
    · ((cbv; try simp only [wf, exD, exL, exT, exB, exA, leLs, leL_d, leL_undef, leL_nils, leA_nils, deq_refl, deq_int, deq_bool, deq_str, and_true, true_and, AObj.iter.injEq, nc, nc']; try simp (disch := omega) only [w64, w32, wu8]); first | done | rfl | omega | (simp; done) | (simp; omega) | skip)
    (cbv; try simp only [wp, (show ∀ n : Nat, _ = n from fun n => wf.2.2.2.2.2.2.2.2.2.2.2.2.2.1 (Int.ofNat n)), (show _ = (0 : Nat) from wf.2.2.2.2.2.2.2.2.2.2.2.2.2.1 0), wpa, (show ∀ n : Nat, _ = n from fun n => wfa.2.2.2.2.2.2.2.2.2.2.2.2.2.1 (Int.ofNat n)), (show _ = (0 : Nat) from wfa.2.2.2.2.2.2.2.2.2.2.2.2.2.1 0), getL, takeL, dropL, TK.isAgg, reduceIte])
    obtain ⟨i1, i2⟩ := hi
    refine ⟨fun e => ?_, fun e => ?_⟩
    · have e : i < n := (by (try simp only [wf, wfa, nc, nc', Int.toNat_natCast, bsz, ByteArray.size_append, List.length_cons, List.length_nil] at *); (try simp (disch := omega) only [w64, w32, wu8] at *); first | done | omega)
      (refine Later.mk ?_; cbv; try simp only [wp, (show ∀ n : Nat, _ = n from fun n => wf.2.2.2.2.2.2.2.2.2.2.2.2.2.1 (Int.ofNat n)), (show _ = (0 : Nat) from wf.2.2.2.2.2.2.2.2.2.2.2.2.2.1 0), wpa, (show ∀ n : Nat, _ = n from fun n => wfa.2.2.2.2.2.2.2.2.2.2.2.2.2.1 (Int.ofNat n)), (show _ = (0 : Nat) from wfa.2.2.2.2.2.2.2.2.2.2.2.2.2.1 0), getL, takeL, dropL, TK.isAgg, reduceIte])
      refine loopO (Tf := @T) @tabOk [(10, upF 0 28)] 400 (fun y : Nat × Bool => ⟨[lv c n V P0, lv c' n' V' P', .ptr 0 0, .ptr 1 0, .undef, .d (.int .i64 i), .d (.bool y.2), .d (.int .i64 y.1), .undef, .undef, .undef, .undef, .undef, .undef, .undef, .undef, .undef, .undef, .undef, .undef, .undef, .undef, .undef, .undef, .undef, .undef, .undef, .undef, .undef, .undef, .undef, .undef, .undef, .undef, .undef, .undef, .undef, .undef, .undef, .undef, .undef, .undef, .undef, .undef, .undef, .undef, .undef, .undef, .undef, .undef, .undef, .undef, .undef, .undef, .undef, .undef, .undef, .undef, .undef, .undef, .undef, .undef, .undef, .undef, .undef, .undef, .undef], [.box [.d (.int .i64 c), .d (.sl n 2 (lvF V P0))], .box [.d (.int .i64 c'), .d (.sl n' 2 (lvF V' P'))]]⟩) (fun y => n' - y.1) (fun y => y.1 ≤ n' ∧ (y.2 = true ↔ InP V P0 y.1 V' P' i)) (0, false) ⟨Nat.zero_le _, iffF fun h => (by obtain ⟨k, hk, _⟩ := h; exact absurd hk (Nat.not_lt_zero _))⟩ (fun {_} => by kernel_rfl) ?_ (fun i => rfl) @fun ⟨_, _, _, _, _, _, _, _, _, _, _, _, _, _, _, _, _, _, _, _, _, _, _, _, _, _, _, _, _, _, _, _, _, _, _, _, _, _, wpb, wfb⟩ ⟨k, f⟩ Bk2 hk hBk2 => ?_
      · ((cbv; try simp only [wf, wfa, exD, exL, exT, exB, exA, leLs, leL_d, leL_undef, leL_nils, leA_nils, deq_refl, deq_int, deq_bool, deq_str, and_true, true_and, AObj.iter.injEq, nc, nc']; try simp (disch := omega) only [w64, w32, wu8]); first | done | rfl | omega | (simp; done) | (simp; omega) | skip)
      obtain ⟨k1, k2⟩ := hk
      dsimp only at k1 k2
      (cbv; try simp only [wp, (show ∀ n : Nat, _ = n from fun n => wf.2.2.2.2.2.2.2.2.2.2.2.2.2.1 (Int.ofNat n)), (show _ = (0 : Nat) from wf.2.2.2.2.2.2.2.2.2.2.2.2.2.1 0), wpa, (show ∀ n : Nat, _ = n from fun n => wfa.2.2.2.2.2.2.2.2.2.2.2.2.2.1 (Int.ofNat n)), (show _ = (0 : Nat) from wfa.2.2.2.2.2.2.2.2.2.2.2.2.2.1 0), wpb, (show ∀ n : Nat, _ = n from fun n => wfb.2.2.2.2.2.2.2.2.2.2.2.2.2.1 (Int.ofNat n)), (show _ = (0 : Nat) from wfb.2.2.2.2.2.2.2.2.2.2.2.2.2.1 0), getL, takeL, dropL, TK.isAgg, reduceIte])
      refine ⟨fun e2 => ?_, fun e2 => ?_⟩
      · have e2 : k < n' := (by (try simp only [wf, wfa, wfb, nc, nc', Int.toNat_natCast, bsz, ByteArray.size_append, List.length_cons, List.length_nil] at *); (try simp (disch := omega) only [w64, w32, wu8] at *); first | done | omega)
        (refine Later.mk ?_; cbv; try simp only [wp, (show ∀ n : Nat, _ = n from fun n => wf.2.2.2.2.2.2.2.2.2.2.2.2.2.1 (Int.ofNat n)), (show _ = (0 : Nat) from wf.2.2.2.2.2.2.2.2.2.2.2.2.2.1 0), wpa, (show ∀ n : Nat, _ = n from fun n => wfa.2.2.2.2.2.2.2.2.2.2.2.2.2.1 (Int.ofNat n)), (show _ = (0 : Nat) from wfa.2.2.2.2.2.2.2.2.2.2.2.2.2.1 0), wpb, (show ∀ n : Nat, _ = n from fun n => wfb.2.2.2.2.2.2.2.2.2.2.2.2.2.1 (Int.ofNat n)), (show _ = (0 : Nat) from wfb.2.2.2.2.2.2.2.2.2.2.2.2.2.1 0), getL, takeL, dropL, TK.isAgg, reduceIte])
        repeat' first | with_reducible refine And.intro ?_ ?_ | intro c9
        all_goals first
          | exact (by (try simp only [wf, wfa, wfb, nc, nc', Int.toNat_natCast, bsz, ByteArray.size_append, List.length_cons, List.length_nil] at *); (try simp (disch := omega) only [w64, w32, wu8] at *); first | done | omega)
          | trivial
          | ((refine Later.mk ?_; cbv; try simp only [wp, (show ∀ n : Nat, _ = n from fun n => wf.2.2.2.2.2.2.2.2.2.2.2.2.2.1 (Int.ofNat n)), (show _ = (0 : Nat) from wf.2.2.2.2.2.2.2.2.2.2.2.2.2.1 0), wpa, (show ∀ n : Nat, _ = n from fun n => wfa.2.2.2.2.2.2.2.2.2.2.2.2.2.1 (Int.ofNat n)), (show _ = (0 : Nat) from wfa.2.2.2.2.2.2.2.2.2.2.2.2.2.1 0), wpb, (show ∀ n : Nat, _ = n from fun n => wfb.2.2.2.2.2.2.2.2.2.2.2.2.2.1 (Int.ofNat n)), (show _ = (0 : Nat) from wfb.2.2.2.2.2.2.2.2.2.2.2.2.2.1 0), getL, takeL, dropL, TK.isAgg, reduceIte])
             refine hBk2 (k + 1, true) _ (by dsimp only; omega) ⟨by dsimp only; omega, iffT ⟨k, by dsimp only; omega, (by (try simp only [wf, wfa, wfb, nc, nc', Int.toNat_natCast, bsz, ByteArray.size_append, List.length_cons, List.length_nil] at *); (try simp (disch := omega) only [w64, w32, wu8] at *); first | done | omega), (by (try simp only [wf, wfa, wfb, nc, nc', Int.toNat_natCast, bsz, ByteArray.size_append, List.length_cons, List.length_nil] at *); (try simp (disch := omega) only [w64, w32, wu8] at *); first | done | omega)⟩⟩ ?_
             ((cbv; try simp only [wf, wfa, wfb, exD, exL, exT, exB, exA, leLs, leL_d, leL_undef, leL_nils, leA_nils, deq_refl, deq_int, deq_bool, deq_str, and_true, true_and, AObj.iter.injEq, nc, nc']; try simp (disch := omega) only [w64, w32, wu8]); first | done | rfl | omega | (simp; done) | (simp; omega) | skip))
          | ((refine Later.mk ?_; cbv; try simp only [wp, (show ∀ n : Nat, _ = n from fun n => wf.2.2.2.2.2.2.2.2.2.2.2.2.2.1 (Int.ofNat n)), (show _ = (0 : Nat) from wf.2.2.2.2.2.2.2.2.2.2.2.2.2.1 0), wpa, (show ∀ n : Nat, _ = n from fun n => wfa.2.2.2.2.2.2.2.2.2.2.2.2.2.1 (Int.ofNat n)), (show _ = (0 : Nat) from wfa.2.2.2.2.2.2.2.2.2.2.2.2.2.1 0), wpb, (show ∀ n : Nat, _ = n from fun n => wfb.2.2.2.2.2.2.2.2.2.2.2.2.2.1 (Int.ofNat n)), (show _ = (0 : Nat) from wfb.2.2.2.2.2.2.2.2.2.2.2.2.2.1 0), getL, takeL, dropL, TK.isAgg, reduceIte])
             refine hBk2 (k + 1, f) _ (by dsimp only; omega) ⟨by dsimp only; omega, ⟨fun h => InP_up (k2.1 h), fun h => k2.2 (InP_dn h (fun h1 h2 => ?_))⟩⟩ ?_
             · exact (by (try simp only [wf, wfa, wfb, nc, nc', Int.toNat_natCast, bsz, ByteArray.size_append, List.length_cons, List.length_nil] at *); (try simp (disch := omega) only [w64, w32, wu8] at *); first | done | omega)
             · ((cbv; try simp only [wf, wfa, wfb, exD, exL, exT, exB, exA, leLs, leL_d, leL_undef, leL_nils, leA_nils, deq_refl, deq_int, deq_bool, deq_str, and_true, true_and, AObj.iter.injEq, nc, nc']; try simp (disch := omega) only [w64, w32, wu8]); first | done | rfl | omega | (simp; done) | (simp; omega) | skip))
      · obtain rfl : k = n' := (by (try simp only [wf, wfa, wfb, nc, nc', Int.toNat_natCast, bsz, ByteArray.size_append, List.length_cons, List.length_nil] at *); (try simp (disch := omega) only [w64, w32, wu8] at *); first | done | omega)
        cases f
        · repeat (refine Later.mk ?_; cbv; try simp only [wp, (show ∀ n : Nat, _ = n from fun n => wf.2.2.2.2.2.2.2.2.2.2.2.2.2.1 (Int.ofNat n)), (show _ = (0 : Nat) from wf.2.2.2.2.2.2.2.2.2.2.2.2.2.1 0), wpa, (show ∀ n : Nat, _ = n from fun n => wfa.2.2.2.2.2.2.2.2.2.2.2.2.2.1 (Int.ofNat n)), (show _ = (0 : Nat) from wfa.2.2.2.2.2.2.2.2.2.2.2.2.2.1 0), wpb, (show ∀ n : Nat, _ = n from fun n => wfb.2.2.2.2.2.2.2.2.2.2.2.2.2.1 (Int.ofNat n)), (show _ = (0 : Nat) from wfb.2.2.2.2.2.2.2.2.2.2.2.2.2.1 0), getL, takeL, dropL, TK.isAgg, reduceIte])
          exact hR _ _ (iffF fun h => (by simpa using k2.2 (h i e)))
        · repeat (refine Later.mk ?_; cbv; try simp only [wp, (show ∀ n : Nat, _ = n from fun n => wf.2.2.2.2.2.2.2.2.2.2.2.2.2.1 (Int.ofNat n)), (show _ = (0 : Nat) from wf.2.2.2.2.2.2.2.2.2.2.2.2.2.1 0), wpa, (show ∀ n : Nat, _ = n from fun n => wfa.2.2.2.2.2.2.2.2.2.2.2.2.2.1 (Int.ofNat n)), (show _ = (0 : Nat) from wfa.2.2.2.2.2.2.2.2.2.2.2.2.2.1 0), wpb, (show ∀ n : Nat, _ = n from fun n => wfb.2.2.2.2.2.2.2.2.2.2.2.2.2.1 (Int.ofNat n)), (show _ = (0 : Nat) from wfb.2.2.2.2.2.2.2.2.2.2.2.2.2.1 0), getL, takeL, dropL, TK.isAgg, reduceIte])
          refine hBk (i + 1) _ (by omega) ⟨by omega, fun j hj => ?_⟩ ?_
          · by_cases e3 : j = i
            · subst e3; exact k2.1 rfl
            · exact i2 j (by omega)
          · ((cbv; try simp only [wf, wfa, wfb, exD, exL, exT, exB, exA, leLs, leL_d, leL_undef, leL_nils, leA_nils, deq_refl, deq_int, deq_bool, deq_str, and_true, true_and, AObj.iter.injEq, nc, nc']; try simp (disch := omega) only [w64, w32, wu8]); first | done | rfl | omega | (simp; done) | (simp; omega) | skip)
    · obtain rfl : i = n := (by (try simp only [wf, wfa, nc, nc', Int.toNat_natCast, bsz, ByteArray.size_append, List.length_cons, List.length_nil] at *); (try simp (disch := omega) only [w64, w32, wu8] at *); first | done | omega)
      (refine Later.mk ?_; cbv; try simp only [wp, (show ∀ n : Nat, _ = n from fun n => wf.2.2.2.2.2.2.2.2.2.2.2.2.2.1 (Int.ofNat n)), (show _ = (0 : Nat) from wf.2.2.2.2.2.2.2.2.2.2.2.2.2.1 0), wpa, (show ∀ n : Nat, _ = n from fun n => wfa.2.2.2.2.2.2.2.2.2.2.2.2.2.1 (Int.ofNat n)), (show _ = (0 : Nat) from wfa.2.2.2.2.2.2.2.2.2.2.2.2.2.1 0), getL, takeL, dropL, TK.isAgg, reduceIte])
      exact hR _ _ (iffT i2)
theorem REqual (c c' : Int) (n n' : Nat) (V P0 V' P' : Nat → Int) (hn : n < 2 ^ 62) (hn' : n' < 2 ^ 62) : VFun (P ()) 101 [lv c n V P0, lv c' n' V' P'] (fun r => ∃ b : Bool, (b = true ↔ ValidP c n V P0 ∧ ValidP c' n' V' P' ∧ LeqP c n V P0 c' n' V' P' ∧ LeqP c' n' V' P' c n V P0) ∧ r = .d (.bool b)) := by
  refine vfunO (Tf := @T) @tabOk [] 400 Tryd.func101 rfl (fun {_} => by kernel_rfl) rfl (Nat.le_of_ble_eq_true rfl) @fun ⟨_, _, _, _, _, _, _, _, _, _, _, _, _, _, _, _, _, _, _, _, _, _, _, _, _, _, _, _, _, _, _, _, _, _, _, _, _, _, wp, wf⟩ R hR => ?_
  cbv
  try simp only [wp, (show ∀ n : Nat, _ = n from fun n => wf.2.2.2.2.2.2.2.2.2.2.2.2.2.1 (Int.ofNat n)), getL, takeL, dropL, TK.isAgg, reduceIte]
  replace hR := fun b H h => hR _ H _ (.d (.bool b)) ⟨b, h, rfl⟩
  refine (RLeq c c' n n' V P0 V' P' hn hn').call ?_
  rintro _ ⟨b, hb, rfl⟩
  cases b <;> (cbv; try simp only [wp, (show ∀ n : Nat, _ = n from fun n => wf.2.2.2.2.2.2.2.2.2.2.2.2.2.1 (Int.ofNat n)), (show _ = (0 : Nat) from wf.2.2.2.2.2.2.2.2.2.2.2.2.2.1 0), getL, takeL, dropL, TK.isAgg, reduceIte])
  · exact hR _ _ (iffF fun h => (by simpa using hb.2 ⟨h.1, h.2.1, h.2.2.1⟩))
  · have v := hb.1 rfl
    refine (RLeq c' c n' n V' P' V P0 hn' hn).call ?_
    rintro _ ⟨b, hb, rfl⟩
    (cbv; try simp only [wp, (show ∀ n : Nat, _ = n from fun n => wf.2.2.2.2.2.2.2.2.2.2.2.2.2.1 (Int.ofNat n)), (show _ = (0 : Nat) from wf.2.2.2.2.2.2.2.2.2.2.2.2.2.1 0), getL, takeL, dropL, TK.isAgg, reduceIte])
    exact hR _ _ ⟨fun h => ⟨v.1, v.2.1, v.2.2, (hb.1 h).2.2⟩, fun h => hb.2 ⟨v.2.1, v.1, h.2.2.2⟩⟩
end Go.VM

namespace Go.VM
open Go.Proofs Go
set_option maxRecDepth 100000
set_option linter.unusedVariables false
set_option linter.unusedSimpArgs false
theorem isNaN (x : Int) : VFun (P ()) 127 [.d (.int .i64 x)] (fun r => r = .d (.bool false)) := by
  refine vfunO (Tf := @T) @tabOk [] 400 Tryd.func127 rfl (fun {_} => by kernel_rfl) rfl (Nat.le_of_ble_eq_true rfl) @fun ⟨_, _, _, _, _, _, _, _, _, _, _, _, _, _, _, _, _, _, _, _, _, _, _, _, _, _, _, _, _, _, _, _, _, _, _, _, _, _, wp, wf⟩ R hR => ?_
  cbv
  try simp only [wp, (show ∀ n : Nat, _ = n from fun n => wf.2.2.2.2.2.2.2.2.2.2.2.2.2.1 (Int.ofNat n)), getL, takeL, dropL, TK.isAgg, reduceIte]
  repeat' first | with_reducible refine And.intro ?_ ?_ | intro c9
  all_goals first | exact hR _ _ _ (.d _) rfl | (exact absurd rfl c9) | trivial | skip
theorem Compare (x y : Int) : VFun (P ()) 118 [.d (.int .i64 x), .d (.int .i64 y)] (fun r => ∃ z : Int, z = (if x < y then -1 else if y < x then 1 else 0) ∧ r = .d (.int .i64 z)) := by
  refine vfunO (Tf := @T) @tabOk [] 400 Tryd.func118 rfl (fun {_} => by kernel_rfl) rfl (Nat.le_of_ble_eq_true rfl) @fun ⟨_, _, _, _, _, _, _, _, _, _, _, _, _, _, _, _, _, _, _, _, _, _, _, _, _, _, _, _, _, _, _, _, _, _, _, _, _, _, wp, wf⟩ R hR => ?_
  cbv
  try simp only [wp, (show ∀ n : Nat, _ = n from fun n => wf.2.2.2.2.2.2.2.2.2.2.2.2.2.1 (Int.ofNat n)), getL, takeL, dropL, TK.isAgg, reduceIte]
  replace hR := fun b H h => hR _ H _ (.d (.int .i64 b)) ⟨b, h, rfl⟩
  refine (isNaN x).call ?_
  rintro _ rfl
  (cbv; try simp only [wp, (show ∀ n : Nat, _ = n from fun n => wf.2.2.2.2.2.2.2.2.2.2.2.2.2.1 (Int.ofNat n)), (show _ = (0 : Nat) from wf.2.2.2.2.2.2.2.2.2.2.2.2.2.1 0), getL, takeL, dropL, TK.isAgg, reduceIte])
  refine (isNaN y).call ?_
  rintro _ rfl
  (cbv; try simp only [wp, (show ∀ n : Nat, _ = n from fun n => wf.2.2.2.2.2.2.2.2.2.2.2.2.2.1 (Int.ofNat n)), (show _ = (0 : Nat) from wf.2.2.2.2.2.2.2.2.2.2.2.2.2.1 0), getL, takeL, dropL, TK.isAgg, reduceIte])
  repeat (refine Later.mk ?_; cbv; try simp only [wp, (show ∀ n : Nat, _ = n from fun n => wf.2.2.2.2.2.2.2.2.2.2.2.2.2.1 (Int.ofNat n)), (show _ = (0 : Nat) from wf.2.2.2.2.2.2.2.2.2.2.2.2.2.1 0), getL, takeL, dropL, TK.isAgg, reduceIte])
  repeat' first | with_reducible refine And.intro ?_ ?_ | intro c9
  all_goals repeat (refine Later.mk ?_; cbv; try simp only [wp, (show ∀ n : Nat, _ = n from fun n => wf.2.2.2.2.2.2.2.2.2.2.2.2.2.1 (Int.ofNat n)), (show _ = (0 : Nat) from wf.2.2.2.2.2.2.2.2.2.2.2.2.2.1 0), getL, takeL, dropL, TK.isAgg, reduceIte])
  all_goals
    repeat' first | with_reducible refine And.intro ?_ ?_ | intro c9
    all_goals repeat (refine Later.mk ?_; cbv; try simp only [wp, (show ∀ n : Nat, _ = n from fun n => wf.2.2.2.2.2.2.2.2.2.2.2.2.2.1 (Int.ofNat n)), (show _ = (0 : Nat) from wf.2.2.2.2.2.2.2.2.2.2.2.2.2.1 0), getL, takeL, dropL, TK.isAgg, reduceIte])
    all_goals first
      | (refine hR _ _ ?_; (repeat' split) <;> omega)
      | skip
theorem sorted1 (a b a' b' : Int) : VFun (P ()) 117 [.agg [.d (.int .i64 a), .d (.int .i64 b)], .agg [.d (.int .i64 a'), .d (.int .i64 b')]] (fun r => ∃ z : Int, z = (if a < a' then -1 else if a' < a then 1 else 0) ∧ r = .d (.int .i64 z)) := by
  refine vfunO (Tf := @T) @tabOk [] 400 Tryd.func117 rfl (fun {_} => by kernel_rfl) rfl (Nat.le_of_ble_eq_true rfl) @fun ⟨_, _, _, _, _, _, _, _, _, _, _, _, _, _, _, _, _, _, _, _, _, _, _, _, _, _, _, _, _, _, _, _, _, _, _, _, _, _, wp, wf⟩ R hR => ?_
  cbv
  try simp only [wp, (show ∀ n : Nat, _ = n from fun n => wf.2.2.2.2.2.2.2.2.2.2.2.2.2.1 (Int.ofNat n)), getL, takeL, dropL, TK.isAgg, reduceIte]
  refine (Compare a a').call ?_
  rintro _ ⟨z, hz, rfl⟩
  (cbv; try simp only [wp, (show ∀ n : Nat, _ = n from fun n => wf.2.2.2.2.2.2.2.2.2.2.2.2.2.1 (Int.ofNat n)), (show _ = (0 : Nat) from wf.2.2.2.2.2.2.2.2.2.2.2.2.2.1 0), getL, takeL, dropL, TK.isAgg, reduceIte])
  exact hR _ _ _ (.d _) ⟨z, hz, rfl⟩
theorem Clone1 (m : Nat) (g : Nat → Nat → D) (hm : m < 2 ^ 30) : VCalls (P ()) 115 [.d (.sl m 2 g)] [] (fun r H' => (m = 0 ∧ r = .nils ∧ H' = []) ∨ ∃ n' g', n' = m ∧ (∀ i j, i < m → g' i j = g i j) ∧ r = .ref 0 0 n' 2 ∧ H' = [.arr n' 2 g' 0]) := by
  refine VCalls_of_W (Tf := @T) @tabOk Tryd.func115 rfl (Nat.le_of_ble_eq_true rfl) @fun ⟨_, _, _, _, _, _, _, _, _, _, _, _, _, _, _, _, _, _, _, _, _, _, _, _, _, _, _, _, _, _, _, _, _, _, _, _, _, _, wp, wf⟩ nH R hnH hR => ?_
  subst hnH
  cbv
  try simp only [wp, (show ∀ n : Nat, _ = n from fun n => wf.2.2.2.2.2.2.2.2.2.2.2.2.2.1 (Int.ofNat n)), getL, takeL, dropL, TK.isAgg, reduceIte]
  repeat' first | with_reducible refine And.intro ?_ ?_ | intro c9
  all_goals first
    | exact (by (try simp only [wf, nc, nc', Int.toNat_natCast, bsz, ByteArray.size_append, List.length_cons, List.length_nil] at *); (try simp (disch := omega) only [w64, w32, wu8] at *); first | done | omega)
    | trivial
    | exact hR _ _ (.inl ⟨(by (try simp only [wf, nc, nc', Int.toNat_natCast, bsz, ByteArray.size_append, List.length_cons, List.length_nil] at *); (try simp (disch := omega) only [w64, w32, wu8] at *); first | done | omega), rfl, rfl⟩)
    | (refine hR _ _ (.inr ⟨_, _, ?_, ?_, rfl, rfl⟩)
       · ((try simp only [wf, nc, nc', Int.toNat_natCast, bsz, ByteArray.size_append, List.length_cons, List.length_nil] at *); (try simp (disch := omega) only [w64, w32, wu8] at *))
         omega
       · intro i j hi
         ((try simp only [wf, nc, nc', Int.toNat_natCast, bsz, ByteArray.size_append, List.length_cons, List.length_nil] at *); (try simp (disch := omega) only [w64, w32, wu8] at *))
         simp [appF])
theorem Clone (m : Nat) (g : Nat → Nat → D) (hm : m < 2 ^ 30) : VCalls (P ()) 115 [.d (.sl m 2 g)] [] (fun r H' => (m = 0 ∧ r = .nils ∧ H' = []) ∨ (r = .ref 0 0 m 2 ∧ H' = [.arr m 2 g 0])) :=
  (Clone1 m g hm).less fun r H' h => by
    rcases h with ⟨rfl, rfl, rfl⟩ | ⟨n', g', rfl, hg, rfl, rfl⟩
    · exact ⟨[], trivial, Nat.le_refl _, rfl, rfl, .inl ⟨rfl, rfl, rfl⟩⟩
    · exact ⟨[.arr n' 2 g 0], ⟨⟨g', 0, rfl, Nat.le_refl _, Nat.zero_le _, fun i j hi _ => .of_eq (hg i j hi)⟩, trivial⟩, Nat.zero_le _, rfl, rfl, .inr ⟨rfl, rfl⟩⟩
theorem swp_upd (V P0 : Nat → Int) {j k : Nat} (hj : 0 < j) (hk : k = j - 1) (x y : Nat) (hy : y < 2) :
    updF (updF (updF (updF (lvF V P0) j 0 (.int .i64 (V k))) j 1 (.int .i64 (P0 k))) k 0 (.int .i64 (V j))) k 1 (.int .i64 (P0 j)) x y = lvF (swp V j) (swp P0 j) x y := by
  subst hk
  have hne : j ≠ j - 1 := by omega
  match y, hy with
  | 0, _ =>
    simp only [updF, lvF, swp]
    by_cases h1 : x = j - 1
    · subst h1; simp [Ne.symm hne]
    · by_cases h2 : x = j
      · subst h2; simp [hne]
      · simp [h1, h2]
  | 1, _ =>
    simp only [updF, lvF, swp]
    by_cases h1 : x = j - 1
    · subst h1; simp [Ne.symm hne]
    · by_cases h2 : x = j
      · subst h2; simp [hne]
      · simp [h1, h2]
structure Sy where
  i : Nat
  V : Nat → Int
  P : Nat → Int
theorem insSort (n : Nat) (V P0 : Nat → Int) (hn : n ≤ 8) : VCalls (P ()) 132 [.ref 0 0 n 2, .d (.int .i64 0), .d (.int .i64 n), .clo 117 [] []] [.arr n 2 (lvF V P0) 0]
    (fun r H => r = .tup [] ∧ ∃ V' P', (lst V' P' n).Perm (lst V P0 n) ∧ upTo V' n ∧ H = [.arr n 2 (lvF V' P') 0]) := by
  refine VCalls_of_Wo (Tf := @T) @tabOk [(4, upF 0 17), (6, upF 0 18)] 400 Tryd.func132 rfl (fun {_} => by kernel_rfl) (Nat.le_of_ble_eq_true rfl) @fun ⟨_, _, _, _, _, _, _, _, _, _, _, _, _, _, _, _, _, _, _, _, _, _, _, _, _, _, _, _, _, _, _, _, _, _, _, _, _, _, wp, wf⟩ nH R hnH hR => ?_
  subst hnH
  cbv
  try simp only [wp, (show ∀ n : Nat, _ = n from fun n => wf.2.2.2.2.2.2.2.2.2.2.2.2.2.1 (Int.ofNat n)), getL, takeL, dropL, TK.isAgg, reduceIte]
  refine loopO (Tf := @T) @tabOk [(4, upF 0 17), (6, upF 0 18)] 400 (fun y : Sy => ⟨[.ref 0 0 n 2, .d (.int .i64 0), .d (.int .i64 n), .clo 117 [] [], .undef, .undef, .undef, .undef, .d (.int .i64 y.i), .undef, .undef, .undef, .undef, .undef, .undef, .undef, .undef, .undef, .undef, .undef, .undef, .undef, .undef, .undef, .undef, .undef, .undef, .undef, .undef, .undef, .undef, .undef, .undef, .undef, .undef, .undef, .undef, .undef, .undef, .undef, .undef, .undef, .undef, .undef, .undef, .undef, .undef, .undef, .undef, .undef, .undef, .undef, .undef], [.arr n 2 (lvF y.V y.P) 0]⟩) (fun y => n - y.i) (fun y => 1 ≤ y.i ∧ (y.i ≤ n ∨ y.i = 1) ∧ (lst y.V y.P n).Perm (lst V P0 n) ∧ upTo y.V y.i) ⟨1, V, P0⟩ ⟨Nat.le_refl _, .inr rfl, .refl _, fun k l h1 h2 => absurd h2 (by dsimp only; omega)⟩ (fun {_} => by kernel_rfl) ?_ (fun i => rfl) @fun ⟨_, _, _, _, _, _, _, _, _, _, _, _, _, _, _, _, _, _, _, _, _, _, _, _, _, _, _, _, _, _, _, _, _, _, _, _, _, _, wpa, wfa⟩ ⟨i, V1, P1⟩ Bk hi hBk => ?_
  · ((cbv; try simp only [wf, exD, exL, exT, exB, exA, leLs, leL_d, leL_undef, leL_nils, leA_nils, deq_refl, deq_int, deq_bool, deq_str, and_true, true_and, AObj.iter.injEq, nc, nc']; try simp (disch := omega) only [w64, w32, wu8]); first | done | rfl | omega | (simp; done) | (simp; omega) | skip)
  (cbv; try simp only [wp, (show ∀ n : Nat, _ = n from fun n => wf.2.2.2.2.2.2.2.2.2.2.2.2.2.1 (Int.ofNat n)), (show _ = (0 : Nat) from wf.2.2.2.2.2.2.2.2.2.2.2.2.2.1 0), wpa, (show ∀ n : Nat, _ = n from fun n => wfa.2.2.2.2.2.2.2.2.2.2.2.2.2.1 (Int.ofNat n)), (show _ = (0 : Nat) from wfa.2.2.2.2.2.2.2.2.2.2.2.2.2.1 0), getL, takeL, dropL, TK.isAgg, reduceIte])
  obtain ⟨i1, i2, i3, i4⟩ := hi
  dsimp only at i1 i2 i3 i4
  refine ⟨fun e => ?_, fun e => ?_⟩
  · have e : i < n := (by (try simp only [wf, wfa, nc, nc', Int.toNat_natCast, bsz, ByteArray.size_append, List.length_cons, List.length_nil] at *); (try simp (disch := omega) only [w64, w32, wu8] at *); first | done | omega)
    (refine Later.mk ?_; cbv; try simp only [wp, (show ∀ n : Nat, _ = n from fun n => wf.2.2.2.2.2.2.2.2.2.2.2.2.2.1 (Int.ofNat n)), (show _ = (0 : Nat) from wf.2.2.2.2.2.2.2.2.2.2.2.2.2.1 0), wpa, (show ∀ n : Nat, _ = n from fun n => wfa.2.2.2.2.2.2.2.2.2.2.2.2.2.1 (Int.ofNat n)), (show _ = (0 : Nat) from wfa.2.2.2.2.2.2.2.2.2.2.2.2.2.1 0), getL, takeL, dropL, TK.isAgg, reduceIte])
    refine loopO (Tf := @T) @tabOk [(4, upF 0 17), (6, upF 0 18)] 400 (fun y : Sy => ⟨[.ref 0 0 n 2, .d (.int .i64 0), .d (.int .i64 n), .clo 117 [] [], .undef, .undef, .undef, .undef, .d (.int .i64 i), .d (.int .i64 y.i), .undef, .undef, .undef, .undef, .undef, .undef, .undef, .undef, .undef, .undef, .undef, .undef, .undef, .undef, .undef, .undef, .undef, .undef, .undef, .undef, .undef, .undef, .undef, .undef, .undef, .undef, .undef, .undef, .undef, .undef, .undef, .undef, .undef, .undef, .undef, .undef, .undef, .undef, .undef, .undef, .undef, .undef, .undef], [.arr n 2 (lvF y.V y.P) 0]⟩) (fun y => y.i) (fun y => (lst y.V y.P n).Perm (lst V P0 n) ∧ upBut y.V i y.i) ⟨i, V1, P1⟩ ⟨i3, upBut_start i4⟩ (fun {_} => by kernel_rfl) ?_ (fun i => rfl) @fun ⟨_, _, _, _, _, _, _, _, _, _, _, _, _, _, _, _, _, _, _, _, _, _, _, _, _, _, _, _, _, _, _, _, _, _, _, _, _, _, wpb, wfb⟩ ⟨j, V2, P2⟩ Bk2 hj hBk2 => ?_
    · ((cbv; try simp only [wf, wfa, exD, exL, exT, exB, exA, leLs, leL_d, leL_undef, leL_nils, leA_nils, deq_refl, deq_int, deq_bool, deq_str, and_true, true_and, AObj.iter.injEq, nc, nc']; try simp (disch := omega) only [w64, w32, wu8]); first | done | rfl | omega | (simp; done) | (simp; omega) | skip)
    obtain ⟨j1, j2⟩ := hj
    dsimp only at j1 j2
    have j3 := j2.1
    (cbv; try simp only [wp, (show ∀ n : Nat, _ = n from fun n => wf.2.2.2.2.2.2.2.2.2.2.2.2.2.1 (Int.ofNat n)), (show _ = (0 : Nat) from wf.2.2.2.2.2.2.2.2.2.2.2.2.2.1 0), wpa, (show ∀ n : Nat, _ = n from fun n => wfa.2.2.2.2.2.2.2.2.2.2.2.2.2.1 (Int.ofNat n)), (show _ = (0 : Nat) from wfa.2.2.2.2.2.2.2.2.2.2.2.2.2.1 0), wpb, (show ∀ n : Nat, _ = n from fun n => wfb.2.2.2.2.2.2.2.2.2.2.2.2.2.1 (Int.ofNat n)), (show _ = (0 : Nat) from wfb.2.2.2.2.2.2.2.2.2.2.2.2.2.1 0), getL, takeL, dropL, TK.isAgg, reduceIte])
    repeat' first | with_reducible refine And.intro ?_ ?_ | intro c9
    all_goals first
      | exact (by (try simp only [wf, wfa, wfb, nc, nc', Int.toNat_natCast, bsz, ByteArray.size_append, List.length_cons, List.length_nil] at *); (try simp (disch := omega) only [w64, w32, wu8] at *); first | done | omega)
      | trivial
      | skip
    · refine (sorted1 _ _ _ _).call ?_
      rintro _ ⟨z, hz, rfl⟩
      have hj0 : 0 < j := (by (try simp only [wf, wfa, wfb, nc, nc', Int.toNat_natCast, bsz, ByteArray.size_append, List.length_cons, List.length_nil] at *); (try simp (disch := omega) only [w64, w32, wu8] at *); first | done | omega)
      have hz : z < 0 ↔ V2 j < V2 (j - 1) := by
        ((try simp only [wf, wfa, wfb, nc, nc', Int.toNat_natCast, bsz, ByteArray.size_append, List.length_cons, List.length_nil] at *); (try simp (disch := omega) only [w64, w32, wu8] at *))
        rw [hz, show ((j : Int) - 1).toNat = j - 1 by omega]
        split
        · simp; omega
        · split <;> simp <;> omega
      (cbv; try simp only [wp, (show ∀ n : Nat, _ = n from fun n => wf.2.2.2.2.2.2.2.2.2.2.2.2.2.1 (Int.ofNat n)), (show _ = (0 : Nat) from wf.2.2.2.2.2.2.2.2.2.2.2.2.2.1 0), wpa, (show ∀ n : Nat, _ = n from fun n => wfa.2.2.2.2.2.2.2.2.2.2.2.2.2.1 (Int.ofNat n)), (show _ = (0 : Nat) from wfa.2.2.2.2.2.2.2.2.2.2.2.2.2.1 0), wpb, (show ∀ n : Nat, _ = n from fun n => wfb.2.2.2.2.2.2.2.2.2.2.2.2.2.1 (Int.ofNat n)), (show _ = (0 : Nat) from wfb.2.2.2.2.2.2.2.2.2.2.2.2.2.1 0), getL, takeL, dropL, TK.isAgg, reduceIte])
      refine ⟨fun e2 => ?_, fun e2 => ?_⟩
      · have e3 := hz.1 e2
        clear hz
        (refine Later.mk ?_; cbv; try simp only [wp, (show ∀ n : Nat, _ = n from fun n => wf.2.2.2.2.2.2.2.2.2.2.2.2.2.1 (Int.ofNat n)), (show _ = (0 : Nat) from wf.2.2.2.2.2.2.2.2.2.2.2.2.2.1 0), wpa, (show ∀ n : Nat, _ = n from fun n => wfa.2.2.2.2.2.2.2.2.2.2.2.2.2.1 (Int.ofNat n)), (show _ = (0 : Nat) from wfa.2.2.2.2.2.2.2.2.2.2.2.2.2.1 0), wpb, (show ∀ n : Nat, _ = n from fun n => wfb.2.2.2.2.2.2.2.2.2.2.2.2.2.1 (Int.ofNat n)), (show _ = (0 : Nat) from wfb.2.2.2.2.2.2.2.2.2.2.2.2.2.1 0), getL, takeL, dropL, TK.isAgg, reduceIte])
        repeat' first | with_reducible refine And.intro ?_ ?_ | intro c9
        all_goals first
          | exact (by (try simp only [wf, wfa, wfb, nc, nc', Int.toNat_natCast, bsz, ByteArray.size_append, List.length_cons, List.length_nil] at *); (try simp (disch := omega) only [w64, w32, wu8] at *); first | done | omega)
          | trivial
          | skip
        obtain ⟨k, hk⟩ : ∃ k, k = j - 1 := ⟨_, rfl⟩
        refine hBk2 ⟨k, swp V2 j, swp P2 j⟩ _ (by dsimp only; omega) ⟨(lst_swp V2 P2 hj0 (by omega)).trans j1, by dsimp only; rw [hk]; exact upBut_step j2 hj0 e3⟩ ?_
        (cbv; try simp only [wf, wfa, wfb, exD, exL, exT, exB, exA, leLs, leL_d, leL_undef, leL_nils, leA_nils, deq_refl, deq_int, deq_bool, deq_str, and_true, true_and, AObj.iter.injEq, nc, nc']; try simp (disch := omega) only [w64, w32, wu8])
        rw [show ((j : Int) - 1).toNat = k by omega]
        refine ⟨by omega, Nat.le_refl _, Nat.zero_le _, fun x y h1 h2 => .of_eq ?_⟩
        exact swp_upd V2 P2 hj0 hk x y h2
      · have e3 := mt hz.2 (by omega)
        clear hz
        (refine Later.mk ?_; cbv; try simp only [wp, (show ∀ n : Nat, _ = n from fun n => wf.2.2.2.2.2.2.2.2.2.2.2.2.2.1 (Int.ofNat n)), (show _ = (0 : Nat) from wf.2.2.2.2.2.2.2.2.2.2.2.2.2.1 0), wpa, (show ∀ n : Nat, _ = n from fun n => wfa.2.2.2.2.2.2.2.2.2.2.2.2.2.1 (Int.ofNat n)), (show _ = (0 : Nat) from wfa.2.2.2.2.2.2.2.2.2.2.2.2.2.1 0), wpb, (show ∀ n : Nat, _ = n from fun n => wfb.2.2.2.2.2.2.2.2.2.2.2.2.2.1 (Int.ofNat n)), (show _ = (0 : Nat) from wfb.2.2.2.2.2.2.2.2.2.2.2.2.2.1 0), getL, takeL, dropL, TK.isAgg, reduceIte])
        refine hBk ⟨i + 1, V2, P2⟩ _ (by dsimp only; omega) ⟨by dsimp only; omega, .inl (by dsimp only; omega), j1, upBut_end j2 (.inr (by dsimp only; omega))⟩ ?_
        ((cbv; try simp only [wf, wfa, wfb, exD, exL, exT, exB, exA, leLs, leL_d, leL_undef, leL_nils, leA_nils, deq_refl, deq_int, deq_bool, deq_str, and_true, true_and, AObj.iter.injEq, nc, nc']; try simp (disch := omega) only [w64, w32, wu8]); first | done | rfl | omega | (simp; done) | (simp; omega) | skip)
    · have e2 : j = 0 := (by (try simp only [wf, wfa, wfb, nc, nc', Int.toNat_natCast, bsz, ByteArray.size_append, List.length_cons, List.length_nil] at *); (try simp (disch := omega) only [w64, w32, wu8] at *); first | done | omega)
      subst e2
      (refine Later.mk ?_; cbv; try simp only [wp, (show ∀ n : Nat, _ = n from fun n => wf.2.2.2.2.2.2.2.2.2.2.2.2.2.1 (Int.ofNat n)), (show _ = (0 : Nat) from wf.2.2.2.2.2.2.2.2.2.2.2.2.2.1 0), wpa, (show ∀ n : Nat, _ = n from fun n => wfa.2.2.2.2.2.2.2.2.2.2.2.2.2.1 (Int.ofNat n)), (show _ = (0 : Nat) from wfa.2.2.2.2.2.2.2.2.2.2.2.2.2.1 0), wpb, (show ∀ n : Nat, _ = n from fun n => wfb.2.2.2.2.2.2.2.2.2.2.2.2.2.1 (Int.ofNat n)), (show _ = (0 : Nat) from wfb.2.2.2.2.2.2.2.2.2.2.2.2.2.1 0), getL, takeL, dropL, TK.isAgg, reduceIte])
      refine hBk ⟨i + 1, V2, P2⟩ _ (by dsimp only; omega) ⟨by dsimp only; omega, .inl (by dsimp only; omega), j1, upBut_end j2 (.inl rfl)⟩ ?_
      ((cbv; try simp only [wf, wfa, wfb, exD, exL, exT, exB, exA, leLs, leL_d, leL_undef, leL_nils, leA_nils, deq_refl, deq_int, deq_bool, deq_str, and_true, true_and, AObj.iter.injEq, nc, nc']; try simp (disch := omega) only [w64, w32, wu8]); first | done | rfl | omega | (simp; done) | (simp; omega) | skip)
  · have e : n ≤ i := (by (try simp only [wf, wfa, nc, nc', Int.toNat_natCast, bsz, ByteArray.size_append, List.length_cons, List.length_nil] at *); (try simp (disch := omega) only [w64, w32, wu8] at *); first | done | omega)
    (refine Later.mk ?_; cbv; try simp only [wp, (show ∀ n : Nat, _ = n from fun n => wf.2.2.2.2.2.2.2.2.2.2.2.2.2.1 (Int.ofNat n)), (show _ = (0 : Nat) from wf.2.2.2.2.2.2.2.2.2.2.2.2.2.1 0), wpa, (show ∀ n : Nat, _ = n from fun n => wfa.2.2.2.2.2.2.2.2.2.2.2.2.2.1 (Int.ofNat n)), (show _ = (0 : Nat) from wfa.2.2.2.2.2.2.2.2.2.2.2.2.2.1 0), getL, takeL, dropL, TK.isAgg, reduceIte])
    exact hR _ _ ⟨rfl, V1, P1, i3, fun k l h1 h2 => i4 k l h1 (by omega), rfl⟩
end Go.VM

namespace Go.VM
open Go.Proofs Go
set_option maxRecDepth 100000
set_option linter.unusedVariables false
set_option linter.unusedSimpArgs false
theorem wu64 {x : Int} (h1 : 0 ≤ x) (h2 : x ≤ 18446744073709551615) : IntKind.u64.wrap x = x := by
  simp only [IntKind.wrap, IntKind.bits, IntKind.signed]
  simp
  omega
theorem pdq8 (n : Nat) (z : Int) (V P0 : Nat → Int) (hn : n ≤ 8) : VCalls (P ()) 125 [.ref 0 0 n 2, .d (.int .i64 0), .d (.int .i64 n), .d (.int .i64 z), .clo 117 [] []] [.arr n 2 (lvF V P0) 0]
    (fun r H => r = .tup [] ∧ ∃ V' P', (lst V' P' n).Perm (lst V P0 n) ∧ upTo V' n ∧ H = [.arr n 2 (lvF V' P') 0]) := by
  refine VCalls_of_Wo (Tf := @T) @tabOk [(17, upF 0 17)] 400 Tryd.func125 rfl (fun {_} => by kernel_rfl) (Nat.le_of_ble_eq_true rfl) @fun ⟨_, _, _, _, _, _, _, _, _, _, _, _, _, _, _, _, _, _, _, _, _, _, _, _, _, _, _, _, _, _, _, _, _, _, _, _, _, _, wp, wf⟩ nH R hnH hR => ?_
  subst hnH
  cbv
  try simp only [wp, (show ∀ n : Nat, _ = n from fun n => wf.2.2.2.2.2.2.2.2.2.2.2.2.2.1 (Int.ofNat n)), getL, takeL, dropL, TK.isAgg, reduceIte]
  refine loopO (Tf := @T) @tabOk [(17, upF 0 17)] 400 (fun y : Unit => ⟨[.ref 0 0 n 2, .d (.int .i64 0), .d (.int .i64 n), .d (.int .i64 z), .clo 117 [] [], .undef, .undef, .undef, .undef, .undef, .d (.bool true), .d (.bool true), .undef, .undef, .undef, .undef, .undef, .undef, .undef, .undef, .undef, .undef, .undef, .undef, .undef, .undef, .undef, .undef, .undef, .undef, .undef, .undef, .undef, .undef, .undef, .undef, .undef, .undef, .undef, .undef, .undef, .undef, .undef, .undef, .undef, .undef, .undef, .undef, .undef, .undef, .undef, .undef, .undef, .undef, .undef, .undef, .undef, .undef, .undef, .undef, .undef, .undef, .undef, .undef, .undef, .undef, .undef, .undef, .undef, .undef, .undef, .undef, .undef, .undef, .undef, .undef, .undef, .undef, .undef, .undef, .undef, .undef, .undef, .undef, .undef, .undef, .undef, .undef, .undef, .undef, .undef, .undef, .undef, .undef, .undef, .undef, .undef, .undef, .undef, .undef, .undef, .undef, .undef, .undef, .undef, .undef, .undef, .undef, .undef, .undef, .undef, .undef, .undef, .undef, .undef, .undef, .undef, .undef, .undef, .undef, .undef, .undef, .undef, .undef, .undef, .undef, .undef, .undef, .undef, .undef, .undef, .undef, .undef, .undef, .undef, .undef, .undef, .undef, .undef, .undef, .undef, .undef, .undef, .undef, .undef, .undef, .undef, .undef], [.arr n 2 (lvF V P0) 0]⟩) (fun y => 0) (fun y => True) () trivial (fun {_} => by kernel_rfl) ?_ (fun i => by kernel_rfl) @fun ⟨_, _, _, _, _, _, _, _, _, _, _, _, _, _, _, _, _, _, _, _, _, _, _, _, _, _, _, _, _, _, _, _, _, _, _, _, _, _, wpa, wfa⟩ _ Bk hi hBk => ?_
  · ((cbv; try simp only [wf, exD, exL, exT, exB, exA, leLs, leL_d, leL_undef, leL_nils, leA_nils, deq_refl, deq_int, deq_bool, deq_str, and_true, true_and, AObj.iter.injEq, nc, nc']; try simp (disch := omega) only [w64, w32, wu8]); first | done | rfl | omega | (simp; done) | (simp; omega) | skip)
  (cbv; try simp only [wp, (show ∀ n : Nat, _ = n from fun n => wf.2.2.2.2.2.2.2.2.2.2.2.2.2.1 (Int.ofNat n)), (show _ = (0 : Nat) from wf.2.2.2.2.2.2.2.2.2.2.2.2.2.1 0), wpa, (show ∀ n : Nat, _ = n from fun n => wfa.2.2.2.2.2.2.2.2.2.2.2.2.2.1 (Int.ofNat n)), (show _ = (0 : Nat) from wfa.2.2.2.2.2.2.2.2.2.2.2.2.2.1 0), getL, takeL, dropL, TK.isAgg, reduceIte])
  refine ⟨fun e => ?_, fun e => ?_⟩
  · (refine Later.mk ?_; cbv; try simp only [wp, (show ∀ n : Nat, _ = n from fun n => wf.2.2.2.2.2.2.2.2.2.2.2.2.2.1 (Int.ofNat n)), (show _ = (0 : Nat) from wf.2.2.2.2.2.2.2.2.2.2.2.2.2.1 0), wpa, (show ∀ n : Nat, _ = n from fun n => wfa.2.2.2.2.2.2.2.2.2.2.2.2.2.1 (Int.ofNat n)), (show _ = (0 : Nat) from wfa.2.2.2.2.2.2.2.2.2.2.2.2.2.1 0), getL, takeL, dropL, TK.isAgg, reduceIte])
    refine CallW.within (insSort n V P0 hn) [0] (by ((try simp only [wf, nc, nc', Int.toNat_natCast, bsz, ByteArray.size_append, List.length_cons, List.length_nil] at *); (try simp (disch := omega) only [w64, w32, wu8] at *)); rfl) ⟨rfl, trivial⟩ rfl ?_
    rintro _ _ ⟨rfl, V', P', h1, h2, rfl⟩
    refine ⟨[.arr n 2 (lvF V' P') 0], [], rfl, Nat.le_refl _, ⟨Nat.zero_le _, trivial⟩, rfl, ?_⟩
    (cbv; try simp only [wp, (show ∀ n : Nat, _ = n from fun n => wf.2.2.2.2.2.2.2.2.2.2.2.2.2.1 (Int.ofNat n)), (show _ = (0 : Nat) from wf.2.2.2.2.2.2.2.2.2.2.2.2.2.1 0), wpa, (show ∀ n : Nat, _ = n from fun n => wfa.2.2.2.2.2.2.2.2.2.2.2.2.2.1 (Int.ofNat n)), (show _ = (0 : Nat) from wfa.2.2.2.2.2.2.2.2.2.2.2.2.2.1 0), getL, takeL, dropL, TK.isAgg, reduceIte])
    exact hR _ _ ⟨rfl, V', P', h1, h2, rfl⟩
  · exact absurd e (by (try simp only [wf, wfa, nc, nc', Int.toNat_natCast, bsz, ByteArray.size_append, List.length_cons, List.length_nil] at *); (try simp (disch := omega) only [w64, w32, wu8] at *); first | done | omega)
theorem bLen64 (x : Int) (h : 0 ≤ x) (h2 : x < 256) : VFun (P ()) 141 [.d (.int .u64 x)] (fun r => ∃ z : Int, r = .d (.int .i64 z)) := by
  refine vfunO (Tf := @T) @tabOk [] 400 Tryd.func141 rfl (fun {_} => by kernel_rfl) rfl (Nat.le_of_ble_eq_true rfl) @fun ⟨_, _, _, _, _, _, _, _, _, _, _, _, _, _, _, _, _, _, _, _, _, _, _, _, _, _, _, _, _, _, _, _, _, _, _, _, _, _, wp, wf⟩ R hR => ?_
  cbv
  try simp only [wp, (show ∀ n : Nat, _ = n from fun n => wf.2.2.2.2.2.2.2.2.2.2.2.2.2.1 (Int.ofNat n)), getL, takeL, dropL, TK.isAgg, reduceIte]
  replace hR := fun z H => hR (.d (.int .i64 z)) H _ (.d (.int .i64 z)) ⟨z, rfl⟩
  repeat' first | with_reducible refine And.intro ?_ ?_ | intro c9
  · exact absurd c9 (by omega)
  · (refine Later.mk ?_; cbv; try simp only [wp, (show ∀ n : Nat, _ = n from fun n => wf.2.2.2.2.2.2.2.2.2.2.2.2.2.1 (Int.ofNat n)), (show _ = (0 : Nat) from wf.2.2.2.2.2.2.2.2.2.2.2.2.2.1 0), getL, takeL, dropL, TK.isAgg, reduceIte])
    repeat' first | with_reducible refine And.intro ?_ ?_ | intro c9
    · exact absurd c9 (by omega)
    · (refine Later.mk ?_; cbv; try simp only [wp, (show ∀ n : Nat, _ = n from fun n => wf.2.2.2.2.2.2.2.2.2.2.2.2.2.1 (Int.ofNat n)), (show _ = (0 : Nat) from wf.2.2.2.2.2.2.2.2.2.2.2.2.2.1 0), getL, takeL, dropL, TK.isAgg, reduceIte])
      repeat' first | with_reducible refine And.intro ?_ ?_ | intro c9
      · exact absurd c9 (by omega)
      · (refine Later.mk ?_; cbv; try simp only [wp, (show ∀ n : Nat, _ = n from fun n => wf.2.2.2.2.2.2.2.2.2.2.2.2.2.1 (Int.ofNat n)), (show _ = (0 : Nat) from wf.2.2.2.2.2.2.2.2.2.2.2.2.2.1 0), getL, takeL, dropL, TK.isAgg, reduceIte])
        refine ⟨(by (try simp only [wf, nc, nc', Int.toNat_natCast, bsz, ByteArray.size_append, List.length_cons, List.length_nil] at *); (try simp (disch := omega) only [w64, w32, wu8] at *); first | done | omega), ?_, hR _ _⟩
        ((try simp only [wf, nc, nc', Int.toNat_natCast, bsz, ByteArray.size_append, List.length_cons, List.length_nil] at *); (try simp (disch := omega) only [w64, w32, wu8] at *))
        exact Int.lt_of_lt_of_le h2 (by decide)
theorem bLen (x : Int) (h : 0 ≤ x) (h2 : x < 256) : VFun (P ()) 126 [.d (.int .u64 x)] (fun r => ∃ z : Int, r = .d (.int .i64 z)) := by
  refine vfunO (Tf := @T) @tabOk [] 400 Tryd.func126 rfl (fun {_} => by kernel_rfl) rfl (Nat.le_of_ble_eq_true rfl) @fun ⟨_, _, _, _, _, _, _, _, _, _, _, _, _, _, _, _, _, _, _, _, _, _, _, _, _, _, _, _, _, _, _, _, _, _, _, _, _, _, wp, wf⟩ R hR => ?_
  cbv
  try simp only [wp, (show ∀ n : Nat, _ = n from fun n => wf.2.2.2.2.2.2.2.2.2.2.2.2.2.1 (Int.ofNat n)), getL, takeL, dropL, TK.isAgg, reduceIte]
  replace hR := fun z H => hR (.d (.int .i64 z)) H _ (.d (.int .i64 z)) ⟨z, rfl⟩
  (refine Later.mk ?_; cbv; try simp only [wp, (show ∀ n : Nat, _ = n from fun n => wf.2.2.2.2.2.2.2.2.2.2.2.2.2.1 (Int.ofNat n)), (show _ = (0 : Nat) from wf.2.2.2.2.2.2.2.2.2.2.2.2.2.1 0), getL, takeL, dropL, TK.isAgg, reduceIte])
  refine (bLen64 _ (by ((try simp only [wf, nc, nc', Int.toNat_natCast, bsz, ByteArray.size_append, List.length_cons, List.length_nil] at *); (try simp (disch := omega) only [w64, w32, wu8] at *)); omega) (by ((try simp only [wf, nc, nc', Int.toNat_natCast, bsz, ByteArray.size_append, List.length_cons, List.length_nil] at *); (try simp (disch := omega) only [w64, w32, wu8] at *)); omega)).call ?_
  rintro _ ⟨z, rfl⟩
  (cbv; try simp only [wp, (show ∀ n : Nat, _ = n from fun n => wf.2.2.2.2.2.2.2.2.2.2.2.2.2.1 (Int.ofNat n)), (show _ = (0 : Nat) from wf.2.2.2.2.2.2.2.2.2.2.2.2.2.1 0), getL, takeL, dropL, TK.isAgg, reduceIte])
  exact hR _ _
theorem SortF (n : Nat) (V P0 : Nat → Int) (hn : n ≤ 8) : VCalls (P ()) 116 [.ref 0 0 n 2, .clo 117 [] []] [.arr n 2 (lvF V P0) 0]
    (fun r H => r = .tup [] ∧ ∃ V' P', (lst V' P' n).Perm (lst V P0 n) ∧ upTo V' n ∧ H = [.arr n 2 (lvF V' P') 0]) := by
  refine VCalls_of_Wo (Tf := @T) @tabOk [] 400 Tryd.func116 rfl (fun {_} => by kernel_rfl) (Nat.le_of_ble_eq_true rfl) @fun ⟨_, _, _, _, _, _, _, _, _, _, _, _, _, _, _, _, _, _, _, _, _, _, _, _, _, _, _, _, _, _, _, _, _, _, _, _, _, _, wp, wf⟩ nH R hnH hR => ?_
  subst hnH
  cbv
  try simp only [wp, (show ∀ n : Nat, _ = n from fun n => wf.2.2.2.2.2.2.2.2.2.2.2.2.2.1 (Int.ofNat n)), getL, takeL, dropL, TK.isAgg, reduceIte]
  refine (bLen _ ?_ ?_).call ?_
  · ((try simp only [wf, nc, nc', Int.toNat_natCast, bsz, ByteArray.size_append, List.length_cons, List.length_nil] at *); (try simp (disch := omega) only [w64, w32, wu8] at *))
    rw [wu64 (by omega) (by omega)]; omega
  · ((try simp only [wf, nc, nc', Int.toNat_natCast, bsz, ByteArray.size_append, List.length_cons, List.length_nil] at *); (try simp (disch := omega) only [w64, w32, wu8] at *))
    rw [wu64 (by omega) (by omega)]; omega
  rintro _ ⟨z, rfl⟩
  (cbv; try simp only [wp, (show ∀ n : Nat, _ = n from fun n => wf.2.2.2.2.2.2.2.2.2.2.2.2.2.1 (Int.ofNat n)), (show _ = (0 : Nat) from wf.2.2.2.2.2.2.2.2.2.2.2.2.2.1 0), getL, takeL, dropL, TK.isAgg, reduceIte])
  refine CallW.within (pdq8 n _ V P0 hn) [0] (by ((try simp only [wf, nc, nc', Int.toNat_natCast, bsz, ByteArray.size_append, List.length_cons, List.length_nil] at *); (try simp (disch := omega) only [w64, w32, wu8] at *)); rfl) ⟨rfl, trivial⟩ rfl ?_
  rintro _ _ ⟨rfl, V', P', h1, h2, rfl⟩
  refine ⟨[.arr n 2 (lvF V' P') 0], [], rfl, Nat.le_refl _, ⟨Nat.zero_le _, trivial⟩, rfl, ?_⟩
  (cbv; try simp only [wp, (show ∀ n : Nat, _ = n from fun n => wf.2.2.2.2.2.2.2.2.2.2.2.2.2.1 (Int.ofNat n)), (show _ = (0 : Nat) from wf.2.2.2.2.2.2.2.2.2.2.2.2.2.1 0), getL, takeL, dropL, TK.isAgg, reduceIte])
  exact hR _ _ ⟨rfl, V', P', h1, h2, rfl⟩
end Go.VM

namespace Go.VM
open Go.Proofs Go
set_option maxRecDepth 100000
set_option linter.unusedVariables false
set_option linter.unusedSimpArgs false
theorem insSort0 : VCalls (P ()) 132 [.nils, .d (.int .i64 0), .d (.int .i64 0), .clo 117 [] []] [] (fun r H => r = .tup [] ∧ H = []) := by
  refine VCalls_of_Wo (Tf := @T) @tabOk [(4, upF 0 17), (6, upF 0 18)] 400 Tryd.func132 rfl (fun {_} => by kernel_rfl) (Nat.le_of_ble_eq_true rfl) @fun ⟨_, _, _, _, _, _, _, _, _, _, _, _, _, _, _, _, _, _, _, _, _, _, _, _, _, _, _, _, _, _, _, _, _, _, _, _, _, _, wp, wf⟩ nH R hnH hR => ?_
  subst hnH
  cbv
  try simp only [wp, (show ∀ n : Nat, _ = n from fun n => wf.2.2.2.2.2.2.2.2.2.2.2.2.2.1 (Int.ofNat n)), getL, takeL, dropL, TK.isAgg, reduceIte]
  refine loopO (Tf := @T) @tabOk [(4, upF 0 17), (6, upF 0 18)] 400 (fun y : Unit => ⟨[.nils, .d (.int .i64 0), .d (.int .i64 0), .clo 117 [] [], .undef, .undef, .undef, .undef, .d (.int .i64 1), .undef, .undef, .undef, .undef, .undef, .undef, .undef, .undef, .undef, .undef, .undef, .undef, .undef, .undef, .undef, .undef, .undef, .undef, .undef, .undef, .undef, .undef, .undef, .undef, .undef, .undef, .undef, .undef, .undef, .undef, .undef, .undef, .undef, .undef, .undef, .undef, .undef, .undef, .undef, .undef, .undef, .undef, .undef, .undef], []⟩) (fun y => 0) (fun y => True) () trivial (fun {_} => by kernel_rfl) ?_ (fun i => by kernel_rfl) @fun ⟨_, _, _, _, _, _, _, _, _, _, _, _, _, _, _, _, _, _, _, _, _, _, _, _, _, _, _, _, _, _, _, _, _, _, _, _, _, _, wpa, wfa⟩ _ Bk hi hBk => ?_
  · ((cbv; try simp only [wf, exD, exL, exT, exB, exA, leLs, leL_d, leL_undef, leL_nils, leA_nils, deq_refl, deq_int, deq_bool, deq_str, and_true, true_and, AObj.iter.injEq, nc, nc']; try simp (disch := omega) only [w64, w32, wu8]); first | done | rfl | omega | (simp; done) | (simp; omega) | skip)
  (cbv; try simp only [wp, (show ∀ n : Nat, _ = n from fun n => wf.2.2.2.2.2.2.2.2.2.2.2.2.2.1 (Int.ofNat n)), (show _ = (0 : Nat) from wf.2.2.2.2.2.2.2.2.2.2.2.2.2.1 0), wpa, (show ∀ n : Nat, _ = n from fun n => wfa.2.2.2.2.2.2.2.2.2.2.2.2.2.1 (Int.ofNat n)), (show _ = (0 : Nat) from wfa.2.2.2.2.2.2.2.2.2.2.2.2.2.1 0), getL, takeL, dropL, TK.isAgg, reduceIte])
  refine ⟨fun e => absurd e (by omega), fun e => ?_⟩
  (refine Later.mk ?_; cbv; try simp only [wp, (show ∀ n : Nat, _ = n from fun n => wf.2.2.2.2.2.2.2.2.2.2.2.2.2.1 (Int.ofNat n)), (show _ = (0 : Nat) from wf.2.2.2.2.2.2.2.2.2.2.2.2.2.1 0), wpa, (show ∀ n : Nat, _ = n from fun n => wfa.2.2.2.2.2.2.2.2.2.2.2.2.2.1 (Int.ofNat n)), (show _ = (0 : Nat) from wfa.2.2.2.2.2.2.2.2.2.2.2.2.2.1 0), getL, takeL, dropL, TK.isAgg, reduceIte])
  exact hR _ _ ⟨rfl, rfl⟩
theorem pdq0 (z : Int) : VCalls (P ()) 125 [.nils, .d (.int .i64 0), .d (.int .i64 0), .d (.int .i64 z), .clo 117 [] []] [] (fun r H => r = .tup [] ∧ H = []) := by
  refine VCalls_of_Wo (Tf := @T) @tabOk [(17, upF 0 17)] 400 Tryd.func125 rfl (fun {_} => by kernel_rfl) (Nat.le_of_ble_eq_true rfl) @fun ⟨_, _, _, _, _, _, _, _, _, _, _, _, _, _, _, _, _, _, _, _, _, _, _, _, _, _, _, _, _, _, _, _, _, _, _, _, _, _, wp, wf⟩ nH R hnH hR => ?_
  subst hnH
  cbv
  try simp only [wp, (show ∀ n : Nat, _ = n from fun n => wf.2.2.2.2.2.2.2.2.2.2.2.2.2.1 (Int.ofNat n)), getL, takeL, dropL, TK.isAgg, reduceIte]
  refine loopO (Tf := @T) @tabOk [(17, upF 0 17)] 400 (fun y : Unit => ⟨[.nils, .d (.int .i64 0), .d (.int .i64 0), .d (.int .i64 z), .clo 117 [] [], .undef, .undef, .undef, .undef, .undef, .d (.bool true), .d (.bool true), .undef, .undef, .undef, .undef, .undef, .undef, .undef, .undef, .undef, .undef, .undef, .undef, .undef, .undef, .undef, .undef, .undef, .undef, .undef, .undef, .undef, .undef, .undef, .undef, .undef, .undef, .undef, .undef, .undef, .undef, .undef, .undef, .undef, .undef, .undef, .undef, .undef, .undef, .undef, .undef, .undef, .undef, .undef, .undef, .undef, .undef, .undef, .undef, .undef, .undef, .undef, .undef, .undef, .undef, .undef, .undef, .undef, .undef, .undef, .undef, .undef, .undef, .undef, .undef, .undef, .undef, .undef, .undef, .undef, .undef, .undef, .undef, .undef, .undef, .undef, .undef, .undef, .undef, .undef, .undef, .undef, .undef, .undef, .undef, .undef, .undef, .undef, .undef, .undef, .undef, .undef, .undef, .undef, .undef, .undef, .undef, .undef, .undef, .undef, .undef, .undef, .undef, .undef, .undef, .undef, .undef, .undef, .undef, .undef, .undef, .undef, .undef, .undef, .undef, .undef, .undef, .undef, .undef, .undef, .undef, .undef, .undef, .undef, .undef, .undef, .undef, .undef, .undef, .undef, .undef, .undef, .undef, .undef, .undef, .undef, .undef], []⟩) (fun y => 0) (fun y => True) () trivial (fun {_} => by kernel_rfl) ?_ (fun i => by kernel_rfl) @fun ⟨_, _, _, _, _, _, _, _, _, _, _, _, _, _, _, _, _, _, _, _, _, _, _, _, _, _, _, _, _, _, _, _, _, _, _, _, _, _, wpa, wfa⟩ _ Bk hi hBk => ?_
  · ((cbv; try simp only [wf, exD, exL, exT, exB, exA, leLs, leL_d, leL_undef, leL_nils, leA_nils, deq_refl, deq_int, deq_bool, deq_str, and_true, true_and, AObj.iter.injEq, nc, nc']; try simp (disch := omega) only [w64, w32, wu8]); first | done | rfl | omega | (simp; done) | (simp; omega) | skip)
  (cbv; try simp only [wp, (show ∀ n : Nat, _ = n from fun n => wf.2.2.2.2.2.2.2.2.2.2.2.2.2.1 (Int.ofNat n)), (show _ = (0 : Nat) from wf.2.2.2.2.2.2.2.2.2.2.2.2.2.1 0), wpa, (show ∀ n : Nat, _ = n from fun n => wfa.2.2.2.2.2.2.2.2.2.2.2.2.2.1 (Int.ofNat n)), (show _ = (0 : Nat) from wfa.2.2.2.2.2.2.2.2.2.2.2.2.2.1 0), getL, takeL, dropL, TK.isAgg, reduceIte])
  refine ⟨fun e => ?_, fun e => ?_⟩
  · (refine Later.mk ?_; cbv; try simp only [wp, (show ∀ n : Nat, _ = n from fun n => wf.2.2.2.2.2.2.2.2.2.2.2.2.2.1 (Int.ofNat n)), (show _ = (0 : Nat) from wf.2.2.2.2.2.2.2.2.2.2.2.2.2.1 0), wpa, (show ∀ n : Nat, _ = n from fun n => wfa.2.2.2.2.2.2.2.2.2.2.2.2.2.1 (Int.ofNat n)), (show _ = (0 : Nat) from wfa.2.2.2.2.2.2.2.2.2.2.2.2.2.1 0), getL, takeL, dropL, TK.isAgg, reduceIte])
    refine CallW.of insSort0 ?_
    rintro _ _ ⟨rfl, rfl⟩
    (cbv; try simp only [wp, (show ∀ n : Nat, _ = n from fun n => wf.2.2.2.2.2.2.2.2.2.2.2.2.2.1 (Int.ofNat n)), (show _ = (0 : Nat) from wf.2.2.2.2.2.2.2.2.2.2.2.2.2.1 0), wpa, (show ∀ n : Nat, _ = n from fun n => wfa.2.2.2.2.2.2.2.2.2.2.2.2.2.1 (Int.ofNat n)), (show _ = (0 : Nat) from wfa.2.2.2.2.2.2.2.2.2.2.2.2.2.1 0), getL, takeL, dropL, TK.isAgg, reduceIte])
    exact hR _ _ ⟨rfl, rfl⟩
  · exact absurd e (by (try simp only [wf, wfa, nc, nc', Int.toNat_natCast, bsz, ByteArray.size_append, List.length_cons, List.length_nil] at *); (try simp (disch := omega) only [w64, w32, wu8] at *); first | done | omega)
theorem SortF0 : VCalls (P ()) 116 [.nils, .clo 117 [] []] [] (fun r H => r = .tup [] ∧ H = []) := by
  refine VCalls_of_Wo (Tf := @T) @tabOk [] 400 Tryd.func116 rfl (fun {_} => by kernel_rfl) (Nat.le_of_ble_eq_true rfl) @fun ⟨_, _, _, _, _, _, _, _, _, _, _, _, _, _, _, _, _, _, _, _, _, _, _, _, _, _, _, _, _, _, _, _, _, _, _, _, _, _, wp, wf⟩ nH R hnH hR => ?_
  subst hnH
  cbv
  try simp only [wp, (show ∀ n : Nat, _ = n from fun n => wf.2.2.2.2.2.2.2.2.2.2.2.2.2.1 (Int.ofNat n)), getL, takeL, dropL, TK.isAgg, reduceIte]
  refine (bLen _ ?_ ?_).call ?_
  · ((try simp only [wf, nc, nc', Int.toNat_natCast, bsz, ByteArray.size_append, List.length_cons, List.length_nil] at *); (try simp (disch := omega) only [w64, w32, wu8] at *))
    rw [wu64 (by omega) (by omega)]; omega
  · ((try simp only [wf, nc, nc', Int.toNat_natCast, bsz, ByteArray.size_append, List.length_cons, List.length_nil] at *); (try simp (disch := omega) only [w64, w32, wu8] at *))
    rw [wu64 (by omega) (by omega)]; omega
  rintro _ ⟨z, rfl⟩
  (cbv; try simp only [wp, (show ∀ n : Nat, _ = n from fun n => wf.2.2.2.2.2.2.2.2.2.2.2.2.2.1 (Int.ofNat n)), (show _ = (0 : Nat) from wf.2.2.2.2.2.2.2.2.2.2.2.2.2.1 0), getL, takeL, dropL, TK.isAgg, reduceIte])
  refine CallW.of (pdq0 _) ?_
  rintro _ _ ⟨rfl, rfl⟩
  (cbv; try simp only [wp, (show ∀ n : Nat, _ = n from fun n => wf.2.2.2.2.2.2.2.2.2.2.2.2.2.1 (Int.ofNat n)), (show _ = (0 : Nat) from wf.2.2.2.2.2.2.2.2.2.2.2.2.2.1 0), getL, takeL, dropL, TK.isAgg, reduceIte])
  exact hR _ _ ⟨rfl, rfl⟩
theorem Sorted0 (n : Nat) (V P0 : Nat → Int) (hn : n ≤ 8) : VCalls (P ()) 105 [.d (.sl n 2 (lvF V P0))] [] (fun r H => (n = 0 ∧ r = .nils ∧ H = []) ∨ ∃ V' P', (lst V' P' n).Perm (lst V P0 n) ∧ upTo V' n ∧ r = .ref 0 0 n 2 ∧ H = [.arr n 2 (lvF V' P') 0]) := by
  refine VCalls_of_Wo (Tf := @T) @tabOk [] 400 Tryd.func105 rfl (fun {_} => by kernel_rfl) (Nat.le_of_ble_eq_true rfl) @fun ⟨_, _, _, _, _, _, _, _, _, _, _, _, _, _, _, _, _, _, _, _, _, _, _, _, _, _, _, _, _, _, _, _, _, _, _, _, _, _, wp, wf⟩ nH R hnH hR => ?_
  subst hnH
  cbv
  try simp only [wp, (show ∀ n : Nat, _ = n from fun n => wf.2.2.2.2.2.2.2.2.2.2.2.2.2.1 (Int.ofNat n)), getL, takeL, dropL, TK.isAgg, reduceIte]
  refine CallW.of (Clone n (lvF V P0) (by omega)) ?_
  rintro _ _ (⟨rfl, rfl, rfl⟩ | ⟨rfl, rfl⟩)
  · (cbv; try simp only [wp, (show ∀ n : Nat, _ = n from fun n => wf.2.2.2.2.2.2.2.2.2.2.2.2.2.1 (Int.ofNat n)), (show _ = (0 : Nat) from wf.2.2.2.2.2.2.2.2.2.2.2.2.2.1 0), getL, takeL, dropL, TK.isAgg, reduceIte])
    refine CallW.of SortF0 ?_
    rintro _ _ ⟨rfl, rfl⟩
    (cbv; try simp only [wp, (show ∀ n : Nat, _ = n from fun n => wf.2.2.2.2.2.2.2.2.2.2.2.2.2.1 (Int.ofNat n)), (show _ = (0 : Nat) from wf.2.2.2.2.2.2.2.2.2.2.2.2.2.1 0), getL, takeL, dropL, TK.isAgg, reduceIte])
    exact hR _ _ (.inl ⟨rfl, rfl, rfl⟩)
  · (cbv; try simp only [wp, (show ∀ n : Nat, _ = n from fun n => wf.2.2.2.2.2.2.2.2.2.2.2.2.2.1 (Int.ofNat n)), (show _ = (0 : Nat) from wf.2.2.2.2.2.2.2.2.2.2.2.2.2.1 0), getL, takeL, dropL, TK.isAgg, reduceIte])
    refine CallW.of (SortF n V P0 hn) ?_
    rintro _ _ ⟨rfl, V', P', h1, h2, rfl⟩
    (cbv; try simp only [wp, (show ∀ n : Nat, _ = n from fun n => wf.2.2.2.2.2.2.2.2.2.2.2.2.2.1 (Int.ofNat n)), (show _ = (0 : Nat) from wf.2.2.2.2.2.2.2.2.2.2.2.2.2.1 0), getL, takeL, dropL, TK.isAgg, reduceIte])
    exact hR _ _ (.inr ⟨V', P', h1, h2, rfl, rfl⟩)
/-- sorted, frozen -/
theorem Sorted (n : Nat) (V P0 : Nat → Int) (hn : n ≤ 8) : VFun (P ()) 105 [.d (.sl n 2 (lvF V P0))] (fun r => ∃ V' P', (lst V' P' n).Perm (lst V P0 n) ∧ upTo V' n ∧ r = .d (.sl n 2 (lvF V' P'))) :=
  VCalls.pure rfl (Sorted0 n V P0 hn) fun r H h => by
    rcases h with ⟨rfl, rfl, rfl⟩ | ⟨V', P', h1, h2, rfl, rfl⟩
    · exact ⟨_, .nils _ _, V, P0, .refl _, fun k l h1 h2 => by omega, rfl⟩
    · exact ⟨_, .ref0 0 n 2 n 0 _ rfl rfl, V', P', h1, h2, rfl⟩
/-- a level and an error, as results -/
def LvRes (o : Option (Int × List Pt)) (err : Int) (r : A) : Prop := ∃ c n V P e, r = .tup [lv c n V P, .d (.int .i64 e)] ∧ n < 2 ^ 61 ∧ (o = none → e = err ∧ c = 0 ∧ n = 0) ∧ ∀ x, o = some x → e = 0 ∧ c = x.1 ∧ lst V P n = x.2
theorem canonical (c : Int) (n : Nat) (V P0 : Nat → Int) (hn : n < 2 ^ 61) : VFun (P ()) 104 [.d (.int .i64 c), .d (.sl n 2 (lvF V P0))] (LvRes (canonL c (lst V P0 n)) 2) := by
  refine vfunO (Tf := @T) @tabOk [] 400 Tryd.func104 rfl (fun {_} => by kernel_rfl) rfl (Nat.le_of_ble_eq_true rfl) @fun ⟨_, _, _, _, _, _, _, _, _, _, _, _, _, _, _, _, _, _, _, _, _, _, _, _, _, _, _, _, _, _, _, _, _, _, _, _, _, _, wp, wf⟩ R hR => ?_
  cbv
  try simp only [wp, (show ∀ n : Nat, _ = n from fun n => wf.2.2.2.2.2.2.2.2.2.2.2.2.2.1 (Int.ofNat n)), getL, takeL, dropL, TK.isAgg, reduceIte]
  replace hR := fun c' n' V' P' e H r h1 h2 h3 hf => hR r H (.tup [lv c' n' V' P', .d (.int .i64 e)]) hf ⟨c', n', V', P', e, rfl, h1, h2, h3⟩
  obtain ⟨o, ho⟩ : ∃ o, o = canonL c (lst V P0 n) := ⟨_, rfl⟩
  rw [← ho] at hR
  unfold canonL at ho
  rw [mostF_lst, lst_length] at ho
  refine (most n V P0 (by omega)).call ?_
  rintro _ ⟨x, hx, rfl⟩
  have ho := ho
  rw [← hx] at ho
  have bad : (if c ≤ x then 0 else c) > 1000 ∨ x > 1000 ∨ n > 8 → ∀ H, R (.tup [.agg [.d (.int .i64 0), .nils], .d (.int .i64 2)]) H := fun h H => by
    rw [if_pos h] at ho
    exact hR 0 0 V P0 2 H _ (by decide) (fun _ => ⟨rfl, rfl, rfl⟩) (fun x hx => by rw [ho] at hx; cases hx) (.tup2 (.agg2 (.d _) (.nils _ _)) (.d _))
  have good : ¬ ((if c ≤ x then 0 else c) > 1000 ∨ x > 1000 ∨ n > 8) → ∀ r H, Frz H r (.tup [lv (if c ≤ x then 0 else c) n V P0, .d (.int .i64 0)]) → R r H := fun h r H hf => by
    rw [if_neg h] at ho
    exact hR _ n V P0 0 H _ hn (fun h => by rw [ho] at h; cases h) (fun x hx => by rw [ho] at hx; cases hx; exact ⟨rfl, rfl, rfl⟩) hf
  clear hR ho
  (cbv; try simp only [wp, (show ∀ n : Nat, _ = n from fun n => wf.2.2.2.2.2.2.2.2.2.2.2.2.2.1 (Int.ofNat n)), (show _ = (0 : Nat) from wf.2.2.2.2.2.2.2.2.2.2.2.2.2.1 0), getL, takeL, dropL, TK.isAgg, reduceIte])
  repeat' first
    | trivial
    | with_reducible refine And.intro ?_ ?_
    | intro c9
    | (refine (most n V P0 (by omega)).call ?_
       rintro _ ⟨y, hy, rfl⟩
       obtain rfl : y = x := by rw [hx, hy]
       (cbv; try simp only [wp, (show ∀ n : Nat, _ = n from fun n => wf.2.2.2.2.2.2.2.2.2.2.2.2.2.1 (Int.ofNat n)), (show _ = (0 : Nat) from wf.2.2.2.2.2.2.2.2.2.2.2.2.2.1 0), getL, takeL, dropL, TK.isAgg, reduceIte]))
    | (exfalso; exact (by (try simp only [wf, nc, nc', Int.toNat_natCast, bsz, ByteArray.size_append, List.length_cons, List.length_nil] at *); (try simp (disch := omega) only [w64, w32, wu8] at *); first | done | omega))
    | (refine bad ?_ _
       split <;> exact (by (try simp only [wf, nc, nc', Int.toNat_natCast, bsz, ByteArray.size_append, List.length_cons, List.length_nil] at *); (try simp (disch := omega) only [w64, w32, wu8] at *); first | done | omega))
    | (refine good (by split <;> exact (by (try simp only [wf, nc, nc', Int.toNat_natCast, bsz, ByteArray.size_append, List.length_cons, List.length_nil] at *); (try simp (disch := omega) only [w64, w32, wu8] at *); first | done | omega)) _ _ ?_
       first
       | rw [if_pos (by assumption)]
       | rw [if_neg (by omega)]
       first
       | exact .tup2 (.agg2 (.d _) (.d _)) (.d _)
       | (obtain rfl : n = 0 := (by (try simp only [wf, nc, nc', Int.toNat_natCast, bsz, ByteArray.size_append, List.length_cons, List.length_nil] at *); (try simp (disch := omega) only [w64, w32, wu8] at *); first | done | omega)
          exact .tup2 (.agg2 (.d _) (.nils _ _)) (.d _)))
    | (refine Later.mk ?_; cbv; try simp only [wp, (show ∀ n : Nat, _ = n from fun n => wf.2.2.2.2.2.2.2.2.2.2.2.2.2.1 (Int.ofNat n)), (show _ = (0 : Nat) from wf.2.2.2.2.2.2.2.2.2.2.2.2.2.1 0), getL, takeL, dropL, TK.isAgg, reduceIte])
/-- the canonical form, or why there is none -/
def NormR (c : Int) (n : Nat) (V P : Nat → Int) (r : A) : Prop := (¬ ValidP c n V P ∧ LvRes none 4 r) ∨ (ValidP c n V P ∧ ∃ q, asc q ∧ q.Perm (lst V P n) ∧ LvRes (canonL c q) 2 r)
theorem Normal (c : Int) (n : Nat) (V P0 : Nat → Int) (hn : n < 2 ^ 61) : VFun (P ()) 90 [lv c n V P0] (NormR c n V P0) := by
  refine vfunO (Tf := @T) @tabOk [] 400 Tryd.func90 rfl (fun {_} => by kernel_rfl) rfl (Nat.le_of_ble_eq_true rfl) @fun ⟨_, _, _, _, _, _, _, _, _, _, _, _, _, _, _, _, _, _, _, _, _, _, _, _, _, _, _, _, _, _, _, _, _, _, _, _, _, _, wp, wf⟩ R hR => ?_
  cbv
  try simp only [wp, (show ∀ n : Nat, _ = n from fun n => wf.2.2.2.2.2.2.2.2.2.2.2.2.2.1 (Int.ofNat n)), getL, takeL, dropL, TK.isAgg, reduceIte]
  refine (Valid c n V P0 (by omega)).call ?_
  rintro _ ⟨b, hb, rfl⟩
  rcases hb.dich with ⟨rfl, v⟩ | ⟨rfl, v⟩ <;> clear hb <;> (cbv; try simp only [wp, (show ∀ n : Nat, _ = n from fun n => wf.2.2.2.2.2.2.2.2.2.2.2.2.2.1 (Int.ofNat n)), (show _ = (0 : Nat) from wf.2.2.2.2.2.2.2.2.2.2.2.2.2.1 0), getL, takeL, dropL, TK.isAgg, reduceIte]) <;> (refine Later.mk ?_; cbv; try simp only [wp, (show ∀ n : Nat, _ = n from fun n => wf.2.2.2.2.2.2.2.2.2.2.2.2.2.1 (Int.ofNat n)), (show _ = (0 : Nat) from wf.2.2.2.2.2.2.2.2.2.2.2.2.2.1 0), getL, takeL, dropL, TK.isAgg, reduceIte])
  · repeat' first
      | trivial
      | with_reducible refine And.intro ?_ ?_
      | (refine (Sorted n V P0 v.2.2.1).call ?_
         rintro _ ⟨V', P', h1, h2, rfl⟩
         (cbv; try simp only [wp, (show ∀ n : Nat, _ = n from fun n => wf.2.2.2.2.2.2.2.2.2.2.2.2.2.1 (Int.ofNat n)), (show _ = (0 : Nat) from wf.2.2.2.2.2.2.2.2.2.2.2.2.2.1 0), getL, takeL, dropL, TK.isAgg, reduceIte])
         repeat' (with_reducible refine And.intro ?_ ?_))
    all_goals
      refine (canonical c n V' P' hn).call ?_
      rintro _ ⟨c2, n2, V2, P2, e, rfl, k1, k2, k3⟩
      (cbv; try simp only [wp, (show ∀ n : Nat, _ = n from fun n => wf.2.2.2.2.2.2.2.2.2.2.2.2.2.1 (Int.ofNat n)), (show _ = (0 : Nat) from wf.2.2.2.2.2.2.2.2.2.2.2.2.2.1 0), getL, takeL, dropL, TK.isAgg, reduceIte])
      repeat' first | trivial | with_reducible refine And.intro ?_ ?_ | intro c9
      all_goals exact hR _ _ (.tup [lv c2 n2 V2 P2, .d (.int .i64 e)]) (.tup2 (.agg2 (.d _) (.d _)) (.d _)) (.inr ⟨v, _, sorted_asc h1 (fun i k a b => (v.2.2.2 i b).2.2.2.2 k a) h2, h1, c2, n2, V2, P2, e, rfl, k1, k2, k3⟩)
  · exact hR _ _ (.tup [lv 0 0 V P0, .d (.int .i64 4)]) (.tup2 (.agg2 (.d _) (.nils _ _)) (.d _)) (.inl ⟨v, 0, 0, V, P0, 4, rfl, by decide, fun _ => ⟨rfl, rfl, rfl⟩, fun x hx => by cases hx⟩)
end Go.VM

namespace Go.VM
open Go.Proofs Go
set_option maxRecDepth 100000
set_option linter.unusedVariables false
set_option linter.unusedSimpArgs false
structure Py where
  i : Nat
  d : Bool
  m : Nat
  V : Nat → Int
  P : Nat → Int
theorem rput (n : Nat) (V P0 : Nat → Int) (v p : Int) (hn : n < 2 ^ 20) (hasc : ∀ k l, k < l → l < n → V k < V l) : VFun (P ()) 119 [.d (.sl n 2 (lvF V P0)), .agg [.d (.int .i64 v), .d (.int .i64 p)]]
    (fun r => ∃ m V' P', lst V' P' m = putL (v, p) (lst V P0 n) ∧ m ≤ n + 1 ∧ r = .d (.sl m 2 (lvF V' P'))) := by
  refine vfunO (Tf := @T) @tabOk [] 400 Tryd.func119 rfl (fun {_} => by kernel_rfl) rfl (Nat.le_of_ble_eq_true rfl) @fun ⟨_, _, _, _, _, _, _, _, _, _, _, _, _, _, _, _, _, _, _, _, _, _, _, _, _, _, _, _, _, _, _, _, _, _, _, _, _, _, wp, wf⟩ R hR => ?_
  cbv
  try simp only [wp, (show ∀ n : Nat, _ = n from fun n => wf.2.2.2.2.2.2.2.2.2.2.2.2.2.1 (Int.ofNat n)), getL, takeL, dropL, TK.isAgg, reduceIte]
  replace hR := fun m V' P' H r h1 h2 hf => hR r H (.d (.sl m 2 (lvF V' P'))) hf ⟨m, V', P', h1, h2, rfl⟩
  refine loopGhost 5 2 rfl ?_
  refine loopO (Tf := @T) @tabOk [] 400 (fun y : Py => ⟨[.d (.sl n 2 (lvF V P0)), .undef, .undef, .ptr 0 0, .undef, .ref 1 0 y.m 2, .d (.bool y.d), .d (.int .i64 y.i), .undef, .undef, .undef, .undef, .undef, .undef, .undef, .undef, .undef, .undef, .undef, .undef, .undef, .undef, .undef, .undef, .undef, .undef, .undef, .undef, .undef, .undef, .undef, .undef, .undef, .undef, .undef, .undef, .undef, .undef, .undef, .undef, .undef, .undef, .undef, .undef, .undef, .undef, .undef, .undef, .undef, .undef, .undef, .undef, .undef, .undef], [.box [.d (.int .i64 v), .d (.int .i64 p)], .arr y.m 2 (lvF y.V y.P) 0]⟩) (fun y => n - y.i) (fun y => y.i ≤ n ∧ y.m ≤ y.i + 1 ∧ (y.d = false → y.m ≤ y.i) ∧ PutS V P0 v p y.i y.d (lst y.V y.P y.m)) ⟨0, false, 0, V, P0⟩ ⟨Nat.zero_le _, Nat.zero_le _, fun _ => Nat.zero_le _, .zero _ _ _ _⟩ (fun {_} => by kernel_rfl) ?_ (fun i => by kernel_rfl) @fun ⟨_, _, _, _, _, _, _, _, _, _, _, _, _, _, _, _, _, _, _, _, _, _, _, _, _, _, _, _, _, _, _, _, _, _, _, _, _, _, wpa, wfa⟩ ⟨i, d, m, V1, P1⟩ Bk hi hBk => ?_
  · (cbv; try simp only [wf, exD, exL, exT, exB, exA, leLs, leL_d, leL_undef, leL_nils, leA_nils, deq_refl, deq_int, deq_bool, deq_str, and_true, true_and, AObj.iter.injEq, nc, nc']; try simp (disch := omega) only [w64, w32, wu8])
    exact ⟨rfl, Nat.le_refl _, Nat.le_refl _, fun i j hi => absurd hi (Nat.not_lt_zero _)⟩
  obtain ⟨i1, i2, i3, i4⟩ := hi
  dsimp only at i1 i2 i3 i4
  cases d
  · have i3 := i3 rfl
    (cbv; try simp only [wp, (show ∀ n : Nat, _ = n from fun n => wf.2.2.2.2.2.2.2.2.2.2.2.2.2.1 (Int.ofNat n)), (show _ = (0 : Nat) from wf.2.2.2.2.2.2.2.2.2.2.2.2.2.1 0), wpa, (show ∀ n : Nat, _ = n from fun n => wfa.2.2.2.2.2.2.2.2.2.2.2.2.2.1 (Int.ofNat n)), (show _ = (0 : Nat) from wfa.2.2.2.2.2.2.2.2.2.2.2.2.2.1 0), getL, takeL, dropL, TK.isAgg, reduceIte])
    refine ⟨fun e => ?_, fun e => ?_⟩
    · have e : i < n := (by (try simp only [wf, wfa, nc, nc', Int.toNat_natCast, bsz, ByteArray.size_append, List.length_cons, List.length_nil] at *); (try simp (disch := omega) only [w64, w32, wu8] at *); first | done | omega)
      (refine Later.mk ?_; cbv; try simp only [wp, (show ∀ n : Nat, _ = n from fun n => wf.2.2.2.2.2.2.2.2.2.2.2.2.2.1 (Int.ofNat n)), (show _ = (0 : Nat) from wf.2.2.2.2.2.2.2.2.2.2.2.2.2.1 0), wpa, (show ∀ n : Nat, _ = n from fun n => wfa.2.2.2.2.2.2.2.2.2.2.2.2.2.1 (Int.ofNat n)), (show _ = (0 : Nat) from wfa.2.2.2.2.2.2.2.2.2.2.2.2.2.1 0), getL, takeL, dropL, TK.isAgg, reduceIte])
      repeat' first | with_reducible refine And.intro ?_ ?_ | intro c9
      all_goals first | exact (by (try simp only [wf, wfa, nc, nc', Int.toNat_natCast, bsz, ByteArray.size_append, List.length_cons, List.length_nil] at *); (try simp (disch := omega) only [w64, w32, wu8] at *); first | done | omega) | trivial | skip
      all_goals (refine Later.mk ?_; cbv; try simp only [wp, (show ∀ n : Nat, _ = n from fun n => wf.2.2.2.2.2.2.2.2.2.2.2.2.2.1 (Int.ofNat n)), (show _ = (0 : Nat) from wf.2.2.2.2.2.2.2.2.2.2.2.2.2.1 0), wpa, (show ∀ n : Nat, _ = n from fun n => wfa.2.2.2.2.2.2.2.2.2.2.2.2.2.1 (Int.ofNat n)), (show _ = (0 : Nat) from wfa.2.2.2.2.2.2.2.2.2.2.2.2.2.1 0), getL, takeL, dropL, TK.isAgg, reduceIte])
      all_goals
        repeat' first | with_reducible refine And.intro ?_ ?_ | intro c9
        all_goals first | exact (by (try simp only [wf, wfa, nc, nc', Int.toNat_natCast, bsz, ByteArray.size_append, List.length_cons, List.length_nil] at *); (try simp (disch := omega) only [w64, w32, wu8] at *); first | done | omega) | trivial | skip
      all_goals (refine Later.mk ?_; cbv; try simp only [wp, (show ∀ n : Nat, _ = n from fun n => wf.2.2.2.2.2.2.2.2.2.2.2.2.2.1 (Int.ofNat n)), (show _ = (0 : Nat) from wf.2.2.2.2.2.2.2.2.2.2.2.2.2.1 0), wpa, (show ∀ n : Nat, _ = n from fun n => wfa.2.2.2.2.2.2.2.2.2.2.2.2.2.1 (Int.ofNat n)), (show _ = (0 : Nat) from wfa.2.2.2.2.2.2.2.2.2.2.2.2.2.1 0), getL, takeL, dropL, TK.isAgg, reduceIte])
      all_goals
        repeat' first | with_reducible refine And.intro ?_ ?_ | intro c9
        all_goals first | exact (by (try simp only [wf, wfa, nc, nc', Int.toNat_natCast, bsz, ByteArray.size_append, List.length_cons, List.length_nil] at *); (try simp (disch := omega) only [w64, w32, wu8] at *); first | done | omega) | trivial | skip
      · have hv : v < V i := (by (try simp only [wf, wfa, nc, nc', Int.toNat_natCast, bsz, ByteArray.size_append, List.length_cons, List.length_nil] at *); (try simp (disch := omega) only [w64, w32, wu8] at *); first | done | omega)
        refine hBk ⟨i + 1, true, m + 1 + 1, ext (ext V1 m v) (m + 1) (V i), ext (ext P1 m p) (m + 1) (P0 i)⟩ _ (by dsimp only; omega) ⟨by dsimp only; omega, by dsimp only; omega, fun h => (by cases h), by dsimp only; rw [lst_ext, lst_ext]; exact i4.lt hv⟩ ?_
        (cbv; try simp only [wf, wfa, exD, exL, exT, exB, exA, leLs, leL_d, leL_undef, leL_nils, leA_nils, deq_refl, deq_int, deq_bool, deq_str, and_true, true_and, AObj.iter.injEq, nc, nc']; try simp (disch := omega) only [w64, w32, wu8])
        ((try simp only [wf, wfa, nc, nc', Int.toNat_natCast, bsz, ByteArray.size_append, List.length_cons, List.length_nil] at *); (try simp (disch := omega) only [w64, w32, wu8] at *))
        exact ⟨by omega, by omega, Nat.zero_le _, fun x j hx hj => .of_eq (ext_row2 V1 P1 m v p (V i) (P0 i) x j hx hj)⟩
      · have hv : v = V i := (by (try simp only [wf, wfa, nc, nc', Int.toNat_natCast, bsz, ByteArray.size_append, List.length_cons, List.length_nil] at *); (try simp (disch := omega) only [w64, w32, wu8] at *); first | done | omega)
        obtain ⟨q, hq⟩ : ∃ q, q = max p (P0 i) := ⟨_, rfl⟩
        refine hBk ⟨i + 1, true, m + 1, ext V1 m (V i), ext P1 m (q)⟩ _ (by dsimp only; omega) ⟨by dsimp only; omega, by dsimp only; omega, fun h => (by cases h), by dsimp only; rw [lst_ext]; exact (by rw [hq]; exact i4.eq hv)⟩ ?_
        (cbv; try simp only [wf, wfa, exD, exL, exT, exB, exA, leLs, leL_d, leL_undef, leL_nils, leA_nils, deq_refl, deq_int, deq_bool, deq_str, and_true, true_and, AObj.iter.injEq, nc, nc']; try simp (disch := omega) only [w64, w32, wu8])
        ((try simp only [wf, wfa, nc, nc', Int.toNat_natCast, bsz, ByteArray.size_append, List.length_cons, List.length_nil] at *); (try simp (disch := omega) only [w64, w32, wu8] at *))
        rw [show (if p < P0 i then P0 i else p) = q by rw [hq]; split <;> omega]
        exact ⟨by omega, by omega, Nat.zero_le _, fun x j hx hj => .of_eq (ext_row V1 P1 m (V i) _ x j hx hj)⟩
      · have hv : V i < v := (by (try simp only [wf, wfa, nc, nc', Int.toNat_natCast, bsz, ByteArray.size_append, List.length_cons, List.length_nil] at *); (try simp (disch := omega) only [w64, w32, wu8] at *); first | done | omega)
        refine hBk ⟨i + 1, false, m + 1, ext V1 m (V i), ext P1 m (P0 i)⟩ _ (by dsimp only; omega) ⟨by dsimp only; omega, by dsimp only; omega, fun _ => (by dsimp only; omega), by dsimp only; rw [lst_ext]; exact i4.gt hv⟩ ?_
        (cbv; try simp only [wf, wfa, exD, exL, exT, exB, exA, leLs, leL_d, leL_undef, leL_nils, leA_nils, deq_refl, deq_int, deq_bool, deq_str, and_true, true_and, AObj.iter.injEq, nc, nc']; try simp (disch := omega) only [w64, w32, wu8])
        ((try simp only [wf, wfa, nc, nc', Int.toNat_natCast, bsz, ByteArray.size_append, List.length_cons, List.length_nil] at *); (try simp (disch := omega) only [w64, w32, wu8] at *))
        exact ⟨by omega, by omega, Nat.zero_le _, fun x j hx hj => .of_eq (ext_row V1 P1 m (V i) _ x j hx hj)⟩
    · obtain rfl : i = n := (by (try simp only [wf, wfa, nc, nc', Int.toNat_natCast, bsz, ByteArray.size_append, List.length_cons, List.length_nil] at *); (try simp (disch := omega) only [w64, w32, wu8] at *); first | done | omega)
      (refine Later.mk ?_; cbv; try simp only [wp, (show ∀ n : Nat, _ = n from fun n => wf.2.2.2.2.2.2.2.2.2.2.2.2.2.1 (Int.ofNat n)), (show _ = (0 : Nat) from wf.2.2.2.2.2.2.2.2.2.2.2.2.2.1 0), wpa, (show ∀ n : Nat, _ = n from fun n => wfa.2.2.2.2.2.2.2.2.2.2.2.2.2.1 (Int.ofNat n)), (show _ = (0 : Nat) from wfa.2.2.2.2.2.2.2.2.2.2.2.2.2.1 0), getL, takeL, dropL, TK.isAgg, reduceIte])
      (refine Later.mk ?_; cbv; try simp only [wp, (show ∀ n : Nat, _ = n from fun n => wf.2.2.2.2.2.2.2.2.2.2.2.2.2.1 (Int.ofNat n)), (show _ = (0 : Nat) from wf.2.2.2.2.2.2.2.2.2.2.2.2.2.1 0), wpa, (show ∀ n : Nat, _ = n from fun n => wfa.2.2.2.2.2.2.2.2.2.2.2.2.2.1 (Int.ofNat n)), (show _ = (0 : Nat) from wfa.2.2.2.2.2.2.2.2.2.2.2.2.2.1 0), getL, takeL, dropL, TK.isAgg, reduceIte])
      repeat' first | trivial | with_reducible refine And.intro ?_ ?_ | intro c9
      all_goals first | exact (by (try simp only [wf, wfa, nc, nc', Int.toNat_natCast, bsz, ByteArray.size_append, List.length_cons, List.length_nil] at *); (try simp (disch := omega) only [w64, w32, wu8] at *); first | done | omega) | skip
      refine hR (m + 1) (ext V1 m v) (ext P1 m p) _ _ (by rw [lst_ext]; exact i4.fin.2 rfl) (by omega) ?_
      ((try simp only [wf, wfa, nc, nc', Int.toNat_natCast, bsz, ByteArray.size_append, List.length_cons, List.length_nil] at *); (try simp (disch := omega) only [w64, w32, wu8] at *))
      exact .deq _ _ _ (.ref0 1 (m + 1) 2 (m + 1) 0 _ rfl rfl) (.sl _ _ _ _ fun x j hx hj => .of_eq (ext_row V1 P1 m v p x j hx hj))
  · (cbv; try simp only [wp, (show ∀ n : Nat, _ = n from fun n => wf.2.2.2.2.2.2.2.2.2.2.2.2.2.1 (Int.ofNat n)), (show _ = (0 : Nat) from wf.2.2.2.2.2.2.2.2.2.2.2.2.2.1 0), wpa, (show ∀ n : Nat, _ = n from fun n => wfa.2.2.2.2.2.2.2.2.2.2.2.2.2.1 (Int.ofNat n)), (show _ = (0 : Nat) from wfa.2.2.2.2.2.2.2.2.2.2.2.2.2.1 0), getL, takeL, dropL, TK.isAgg, reduceIte])
    refine ⟨fun e => ?_, fun e => ?_⟩
    · have e : i < n := (by (try simp only [wf, wfa, nc, nc', Int.toNat_natCast, bsz, ByteArray.size_append, List.length_cons, List.length_nil] at *); (try simp (disch := omega) only [w64, w32, wu8] at *); first | done | omega)
      (refine Later.mk ?_; cbv; try simp only [wp, (show ∀ n : Nat, _ = n from fun n => wf.2.2.2.2.2.2.2.2.2.2.2.2.2.1 (Int.ofNat n)), (show _ = (0 : Nat) from wf.2.2.2.2.2.2.2.2.2.2.2.2.2.1 0), wpa, (show ∀ n : Nat, _ = n from fun n => wfa.2.2.2.2.2.2.2.2.2.2.2.2.2.1 (Int.ofNat n)), (show _ = (0 : Nat) from wfa.2.2.2.2.2.2.2.2.2.2.2.2.2.1 0), getL, takeL, dropL, TK.isAgg, reduceIte])
      repeat' first | with_reducible refine And.intro ?_ ?_ | intro c9
      all_goals first | exact (by (try simp only [wf, wfa, nc, nc', Int.toNat_natCast, bsz, ByteArray.size_append, List.length_cons, List.length_nil] at *); (try simp (disch := omega) only [w64, w32, wu8] at *); first | done | omega) | trivial | skip
      all_goals (refine Later.mk ?_; cbv; try simp only [wp, (show ∀ n : Nat, _ = n from fun n => wf.2.2.2.2.2.2.2.2.2.2.2.2.2.1 (Int.ofNat n)), (show _ = (0 : Nat) from wf.2.2.2.2.2.2.2.2.2.2.2.2.2.1 0), wpa, (show ∀ n : Nat, _ = n from fun n => wfa.2.2.2.2.2.2.2.2.2.2.2.2.2.1 (Int.ofNat n)), (show _ = (0 : Nat) from wfa.2.2.2.2.2.2.2.2.2.2.2.2.2.1 0), getL, takeL, dropL, TK.isAgg, reduceIte])
      all_goals
        repeat' first | with_reducible refine And.intro ?_ ?_ | intro c9
        all_goals first | exact (by (try simp only [wf, wfa, nc, nc', Int.toNat_natCast, bsz, ByteArray.size_append, List.length_cons, List.length_nil] at *); (try simp (disch := omega) only [w64, w32, wu8] at *); first | done | omega) | trivial | skip
      all_goals obtain ⟨hv, i5⟩ := i4.up hasc e
      · exact absurd (show v = V i by assumption) (by omega)
      · (refine Later.mk ?_; cbv; try simp only [wp, (show ∀ n : Nat, _ = n from fun n => wf.2.2.2.2.2.2.2.2.2.2.2.2.2.1 (Int.ofNat n)), (show _ = (0 : Nat) from wf.2.2.2.2.2.2.2.2.2.2.2.2.2.1 0), wpa, (show ∀ n : Nat, _ = n from fun n => wfa.2.2.2.2.2.2.2.2.2.2.2.2.2.1 (Int.ofNat n)), (show _ = (0 : Nat) from wfa.2.2.2.2.2.2.2.2.2.2.2.2.2.1 0), getL, takeL, dropL, TK.isAgg, reduceIte])
        repeat' first | with_reducible refine And.intro ?_ ?_ | intro c9
        all_goals first | exact (by (try simp only [wf, wfa, nc, nc', Int.toNat_natCast, bsz, ByteArray.size_append, List.length_cons, List.length_nil] at *); (try simp (disch := omega) only [w64, w32, wu8] at *); first | done | omega) | trivial | skip
        refine hBk ⟨i + 1, true, m + 1, ext V1 m (V i), ext P1 m (P0 i)⟩ _ (by dsimp only; omega) ⟨by dsimp only; omega, by dsimp only; omega, fun h => (by cases h), by dsimp only; rw [lst_ext]; exact i5⟩ ?_
        (cbv; try simp only [wf, wfa, exD, exL, exT, exB, exA, leLs, leL_d, leL_undef, leL_nils, leA_nils, deq_refl, deq_int, deq_bool, deq_str, and_true, true_and, AObj.iter.injEq, nc, nc']; try simp (disch := omega) only [w64, w32, wu8])
        ((try simp only [wf, wfa, nc, nc', Int.toNat_natCast, bsz, ByteArray.size_append, List.length_cons, List.length_nil] at *); (try simp (disch := omega) only [w64, w32, wu8] at *))
        exact ⟨by omega, by omega, Nat.zero_le _, fun x j hx hj => .of_eq (ext_row V1 P1 m (V i) _ x j hx hj)⟩
    · obtain rfl : i = n := (by (try simp only [wf, wfa, nc, nc', Int.toNat_natCast, bsz, ByteArray.size_append, List.length_cons, List.length_nil] at *); (try simp (disch := omega) only [w64, w32, wu8] at *); first | done | omega)
      (refine Later.mk ?_; cbv; try simp only [wp, (show ∀ n : Nat, _ = n from fun n => wf.2.2.2.2.2.2.2.2.2.2.2.2.2.1 (Int.ofNat n)), (show _ = (0 : Nat) from wf.2.2.2.2.2.2.2.2.2.2.2.2.2.1 0), wpa, (show ∀ n : Nat, _ = n from fun n => wfa.2.2.2.2.2.2.2.2.2.2.2.2.2.1 (Int.ofNat n)), (show _ = (0 : Nat) from wfa.2.2.2.2.2.2.2.2.2.2.2.2.2.1 0), getL, takeL, dropL, TK.isAgg, reduceIte])
      (refine Later.mk ?_; cbv; try simp only [wp, (show ∀ n : Nat, _ = n from fun n => wf.2.2.2.2.2.2.2.2.2.2.2.2.2.1 (Int.ofNat n)), (show _ = (0 : Nat) from wf.2.2.2.2.2.2.2.2.2.2.2.2.2.1 0), wpa, (show ∀ n : Nat, _ = n from fun n => wfa.2.2.2.2.2.2.2.2.2.2.2.2.2.1 (Int.ofNat n)), (show _ = (0 : Nat) from wfa.2.2.2.2.2.2.2.2.2.2.2.2.2.1 0), getL, takeL, dropL, TK.isAgg, reduceIte])
      repeat' first | trivial | with_reducible refine And.intro ?_ ?_ | intro c9
      all_goals first | exact (by (try simp only [wf, wfa, nc, nc', Int.toNat_natCast, bsz, ByteArray.size_append, List.length_cons, List.length_nil] at *); (try simp (disch := omega) only [w64, w32, wu8] at *); first | done | omega) | skip
      exact hR m V1 P1 _ _ (i4.fin.1 rfl) (by omega) (.ref0 1 m 2 m 0 _ rfl rfl)
end Go.VM
