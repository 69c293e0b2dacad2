/- Proved: a level is at most another one exactly if it is so for all assignments of which each number is 0 or MaxOffset + 1, and then it is so for any numbers (T1, P1.6; valid levels of at most 5 variables together, numbers of at most 2,000,000,000). Conditions: none beyond those of the given card. -/
import Derived.Test.YtjfkhhenccochaaDoorCards
import Derived.Test.YtjfkhhenccochaaDoorTie
import Derived.Test.YtjfkhhenccochaaDoorGX9
import Derived.Test.YtjfkhhenccochaaDoorGX11
namespace Go.VM
open Go.Proofs Go Go.ChangeShapes Go.WideShapes Go.ChangeAt Go.RowKit
open Go.Proofs.YtjfkhhenccochaaDoor
set_option maxRecDepth 100000
set_option linter.unusedVariables false

theorem wit_levelTells (os : Os) {H : Type} (enc : TypeId × Value → H) :
    (OpenSpec.ofChange Rows.levelTellsSpec).preRow enc Tryd.prog Tryd.f5 [] false laidL ((laidWorld os).forCall (fun _ _ => 0) ⟨#[], #[Value.agg #[.int .i64 0, .slice none 0 0], Value.agg #[.int .i64 0, .slice none 0 0], Value.slice none 0 0], []⟩).memory #[Value.agg #[.int .i64 0, .slice none 0 0], Value.agg #[.int .i64 0, .slice none 0 0], Value.slice none 0 0] := by
  have hw : (DataW.whole enc Tryd.prog ((laidWorld os).forCall (fun _ _ => 0) ⟨#[], #[Value.agg #[.int .i64 0, .slice none 0 0], Value.agg #[.int .i64 0, .slice none 0 0], Value.slice none 0 0], []⟩).memory Tryd.f5.params.toList (OpenSpec.ofChange Rows.levelTellsSpec).vars false #[Value.agg #[.int .i64 0, .slice none 0 0], Value.agg #[.int .i64 0, .slice none 0 0], Value.slice none 0 0].toList 8).map (fun x => (x.1, x.2.1)) =
      some ([.agg [.lit (.int .i64 0), .nil], .agg [.lit (.int .i64 0), .nil], .nil], []) := by kernel_rfl
  obtain ⟨⟨x1, x2, x3⟩, hx, hx1⟩ := Option.map_eq_some_iff.1 hw
  simp only [Prod.mk.injEq] at hx1
  obtain ⟨rfl, rfl⟩ := hx1
  exact OpenSpec.preRow_of_cond 8 hx (by kernel_rfl) (fun k hk => by cases hk) (by kernel_rfl) (laid_met os _)

theorem levelTells_lifted (os : Os) (started : os.Started) (H : Type) (enc : TypeId × Value → H) (F : Stop.Interp) :
    ReturnsInHanded {} Tryd.checked os 5 .any ((OpenSpec.ofChange Rows.levelTellsSpec).preRow enc Tryd.prog Tryd.f5 [] false laidL) (((OpenSpec.ofChange Rows.levelTellsSpec).at F).post enc Tryd.prog Tryd.f5 false true false false) := by
  refine law_lifted2 (C := Tryd.checked) (fn := Tryd.f5) (tb := 4) H enc F own started (by kernel_rfl) Tryd.func5 rfl (by kernel_rfl) Tryd.underlying4 ?_ laidOut (by decide +kernel)
    (wit_of (C := Tryd.checked) (laidWorld os) #[Value.agg #[.int .i64 0, .slice none 0 0], Value.agg #[.int .i64 0, .slice none 0 0], Value.slice none 0 0] (World.laidAll_os _ _ _) (laid_shaped os _) (by kernel_rfl) (wit_levelTells os enc)) (fun W h _ => glob_of W h) ?_
  · intro ds hd
    have hd : ds.length = 3 := hd
    match ds, hd with
    | [d0, d1, d2], _ => rfl
  · intro W base args ds p hval hA
    have hA : DataW.TrodAll enc Tryd.prog W 0 (fun _ => true) true Tryd.f5.params.toList args.toList ds p := hA
    have hval : ∀ (j : Nat) t v, Tryd.f5.params[j]? = some t → args[j]? = some v → Value.okWide Tryd.prog W .any base t v := hval
    rw [Tryd.params5] at hA hval
    obtain ⟨vs, hvs⟩ : ∃ vs, args = ⟨vs⟩ := ⟨args.toList, rfl⟩
    subst hvs
    obtain ⟨v0, vs0, d0, ds0, p0, q0, hv0, rfl, rfl, hd0, hA0⟩ := trodAll_cons hA
    try dsimp only at hv0
    subst hv0
    obtain ⟨v1, vs1, d1, ds1, p1, q1, hv1, rfl, rfl, hd1, hA1⟩ := trodAll_cons hA0
    try dsimp only at hv1
    subst hv1
    obtain ⟨v2, vs2, d2, ds2, p2, q2, hv2, rfl, rfl, hd2, hA2⟩ := trodAll_cons hA1
    try dsimp only at hv2
    subst hv2
    obtain ⟨rfl, rfl, rfl⟩ := trodAll_nil hA2
    obtain ⟨c0, n0, V0, P0, hn0, hr0⟩ := open_level (hval 0 24 v0 rfl rfl) hd0
    obtain ⟨c1, n1, V1, P1, hn1, hr1⟩ := open_level (hval 1 24 v1 rfl rfl) hd1
    obtain ⟨m2, N2, hm2, hw2, hr2⟩ := ints_open (by decide) Tryd.underlying33 Tryd.underlying36 (by kernel_rfl) (hval 2 33 v2 rfl rfl) hd2
    refine ⟨[lv c0 n0 V0 P0, lv c1 n1 V1 P1, .d (.sl m2 1 (nsF .u32 N2))], lawTells _ _ _ _ _ _ _ _ _ _ hn0 hn1 hm2 hw2, rfl, fun k hk => ?_⟩
    match k, hk with
    | 0, _ => exact hr0 _ _
    | 1, _ => exact hr1 _ _
    | 2, _ => exact hr2 _ _

theorem levelTells_row : Rows.LevelTellsSaid :=
  OpenClaim.holds_of_cond 5 Tryd.f5 rfl rfl rfl rfl rfl rfl rfl ⟨rfl, rfl, rfl, rfl, rfl⟩ rfl rfl rfl rfl rfl (by kernel_rfl) Tryd.func5 (by kernel_rfl)
    (of_decide_eq_true (by kernel_rfl)) (by unfold Func.isWrapper; rw [if_neg (of_decide_eq_false (by kernel_rfl))]; exact ⟨rfl, rfl⟩)
    (fun os started H enc _ F0 => by rw [OpenClaim.pre_eq_preRow]; exact levelTells_lifted os started H enc F0)

theorem levelTells_card : Rows.LevelTellsCardSaid :=
  Claim7.holds_tied_plain_at .later [] [.data, .data, .data] true (true, "6d0cf40c818d4a4966a7912ad0ed6143e63c87d56d60ac35c1914771d37a7a37") false
    levelTells_row (fun _ h => by cases h) (by kernel_rfl) (fun _ h => by cases h) levelTells_row_tie rfl ⟨rfl, rfl⟩ (by kernel_rfl) rfl
    (fun f fn hf hfn => by
      obtain rfl : f = 5 := Option.some.inj ((show Tryd.prog.funcNamed "tenet/tenetlaw01.LevelTells" = some 5 by kernel_rfl).symm.trans hf) |>.symm
      obtain rfl : fn = Tryd.f5 := (Option.some.inj (Tryd.func5.symm.trans hfn)).symm
      exact ⟨by kernel_rfl, fun j t ht => by
        rw [Tryd.params5] at ht
        rcases j with _ | _ | _ | j
        · obtain rfl : 24 = t := by simpa using ht
          exact (show Tryd.prog.wantsStandIn 24 = false by kernel_rfl)
        · obtain rfl : 24 = t := by simpa using ht
          exact (show Tryd.prog.wantsStandIn 24 = false by kernel_rfl)
        · obtain rfl : 33 = t := by simpa using ht
          exact (show Tryd.prog.wantsStandIn 33 = false by kernel_rfl)
        · simp at ht⟩)
    (by kernel_rfl)
end Go.VM
namespace Go.Proofs.YtjfkhhenccochaaDoor
theorem levelTells_holds : Rows.LevelTellsCardSaid := Go.VM.levelTells_card
end Go.Proofs.YtjfkhhenccochaaDoor
