/- Proved: the value of a level with levels put in is its value with their values, and what is at most another level stays so (P1.7; valid levels of variables below 12; at most 12 levels, as many numbers, of at most 1,000,000). Conditions: none beyond those of the given card. -/
import Derived.Test.YtjfkhhenccochaaDoorCards
import Derived.Test.YtjfkhhenccochaaDoorTie
import Derived.Test.YtjfkhhenccochaaDoorGX9
import Derived.Test.YtjfkhhenccochaaDoorGX11
namespace Go.VM
open Go.Proofs Go Go.ChangeShapes Go.WideShapes Go.ChangeAt Go.RowKit
open Go.Proofs.YtjfkhhenccochaaDoor
set_option maxRecDepth 100000
set_option linter.unusedVariables false

theorem wit_levelPuts (os : Os) {H : Type} (enc : TypeId × Value → H) :
    (OpenSpec.ofChange Rows.levelPutsSpec).preRow enc Tryd.prog Tryd.f9 [] false laidL ((laidWorld os).forCall (fun _ _ => 0) ⟨#[], #[Value.agg #[.int .i64 0, .slice none 0 0], Value.agg #[.int .i64 0, .slice none 0 0], Value.slice none 0 0, Value.slice none 0 0], []⟩).memory #[Value.agg #[.int .i64 0, .slice none 0 0], Value.agg #[.int .i64 0, .slice none 0 0], Value.slice none 0 0, Value.slice none 0 0] := by
  have hw : (DataW.whole enc Tryd.prog ((laidWorld os).forCall (fun _ _ => 0) ⟨#[], #[Value.agg #[.int .i64 0, .slice none 0 0], Value.agg #[.int .i64 0, .slice none 0 0], Value.slice none 0 0, Value.slice none 0 0], []⟩).memory Tryd.f9.params.toList (OpenSpec.ofChange Rows.levelPutsSpec).vars false #[Value.agg #[.int .i64 0, .slice none 0 0], Value.agg #[.int .i64 0, .slice none 0 0], Value.slice none 0 0, Value.slice none 0 0].toList 8).map (fun x => (x.1, x.2.1)) =
      some ([.agg [.lit (.int .i64 0), .nil], .agg [.lit (.int .i64 0), .nil], .nil, .nil], []) := by kernel_rfl
  obtain ⟨⟨x1, x2, x3⟩, hx, hx1⟩ := Option.map_eq_some_iff.1 hw
  simp only [Prod.mk.injEq] at hx1
  obtain ⟨rfl, rfl⟩ := hx1
  exact OpenSpec.preRow_of_cond 8 hx (by kernel_rfl) (fun k hk => by cases hk) (by kernel_rfl) (laid_met os _)

theorem levelPuts_lifted (os : Os) (started : os.Started) (H : Type) (enc : TypeId × Value → H) (F : Stop.Interp) :
    ReturnsInHanded {} Tryd.checked os 9 .any ((OpenSpec.ofChange Rows.levelPutsSpec).preRow enc Tryd.prog Tryd.f9 [] false laidL) (((OpenSpec.ofChange Rows.levelPutsSpec).at F).post enc Tryd.prog Tryd.f9 false true false false) := by
  refine law_lifted2 (C := Tryd.checked) (fn := Tryd.f9) (tb := 4) H enc F own started (by kernel_rfl) Tryd.func9 rfl (by kernel_rfl) Tryd.underlying4 ?_ laidOut (by decide +kernel)
    (wit_of (C := Tryd.checked) (laidWorld os) #[Value.agg #[.int .i64 0, .slice none 0 0], Value.agg #[.int .i64 0, .slice none 0 0], Value.slice none 0 0, Value.slice none 0 0] (World.laidAll_os _ _ _) (laid_shaped os _) (by kernel_rfl) (wit_levelPuts os enc)) (fun W h _ => glob_of W h) ?_
  · intro ds hd
    have hd : ds.length = 4 := hd
    match ds, hd with
    | [d0, d1, d2, d3], _ => rfl
  · intro W base args ds p hval hA
    have hA : DataW.TrodAll enc Tryd.prog W 0 (fun _ => true) true Tryd.f9.params.toList args.toList ds p := hA
    have hval : ∀ (j : Nat) t v, Tryd.f9.params[j]? = some t → args[j]? = some v → Value.okWide Tryd.prog W .any base t v := hval
    rw [Tryd.params9] at hA hval
    obtain ⟨vs, hvs⟩ : ∃ vs, args = ⟨vs⟩ := ⟨args.toList, rfl⟩
    subst hvs
    obtain ⟨v0, vs0, d0, ds0, p0, q0, hv0, rfl, rfl, hd0, hA0⟩ := trodAll_cons hA
    try dsimp only at hv0
    subst hv0
    obtain ⟨v1, vs1, d1, ds1, p1, q1, hv1, rfl, rfl, hd1, hA1⟩ := trodAll_cons hA0
    try dsimp only at hv1
    subst hv1
    obtain ⟨v2, vs2, d2, ds2, p2, q2, hv2, rfl, rfl, hd2, hA2⟩ := trodAll_cons hA1
    try dsimp only at hv2
    subst hv2
    obtain ⟨v3, vs3, d3, ds3, p3, q3, hv3, rfl, rfl, hd3, hA3⟩ := trodAll_cons hA2
    try dsimp only at hv3
    subst hv3
    obtain ⟨rfl, rfl, rfl⟩ := trodAll_nil hA3
    obtain ⟨c0, n0, V0, P0, hn0, hr0⟩ := open_level (hval 0 24 v0 rfl rfl) hd0
    obtain ⟨c1, n1, V1, P1, hn1, hr1⟩ := open_level (hval 1 24 v1 rfl rfl) hd1
    obtain ⟨m2, C2, N2, V2, P2, hm2, hn2, hr2⟩ := open_levels (hval 2 42 v2 rfl rfl) hd2
    obtain ⟨m3, N3, hm3, hw3, hr3⟩ := ints_open (by decide) Tryd.underlying33 Tryd.underlying36 (by kernel_rfl) (hval 3 33 v3 rfl rfl) hd3
    refine ⟨[lv c0 n0 V0 P0, lv c1 n1 V1 P1, .d (.sl m2 2 (lsF C2 N2 V2 P2)), .d (.sl m3 1 (nsF .u32 N3))], lawPuts _ _ _ _ _ _ _ _ _ _ _ _ _ _ _ hn0 hn1 hm2 hn2 hm3 hw3, rfl, fun k hk => ?_⟩
    match k, hk with
    | 0, _ => exact hr0 _ _
    | 1, _ => exact hr1 _ _
    | 2, _ => exact hr2 _ _
    | 3, _ => exact hr3 _ _

theorem levelPuts_row : Rows.LevelPutsSaid :=
  OpenClaim.holds_of_cond 9 Tryd.f9 rfl rfl rfl rfl rfl rfl rfl ⟨rfl, rfl, rfl, rfl, rfl⟩ rfl rfl rfl rfl rfl (by kernel_rfl) Tryd.func9 (by kernel_rfl)
    (of_decide_eq_true (by kernel_rfl)) (by unfold Func.isWrapper; rw [if_neg (of_decide_eq_false (by kernel_rfl))]; exact ⟨rfl, rfl⟩)
    (fun os started H enc _ F0 => by rw [OpenClaim.pre_eq_preRow]; exact levelPuts_lifted os started H enc F0)

theorem levelPuts_card : Rows.LevelPutsCardSaid :=
  Claim7.holds_tied_plain_at .later [] [.data, .data, .data] true (true, "6d0cf40c818d4a4966a7912ad0ed6143e63c87d56d60ac35c1914771d37a7a37") false
    levelPuts_row (fun _ h => by cases h) (by kernel_rfl) (fun _ h => by cases h) levelPuts_row_tie rfl ⟨rfl, rfl⟩ (by kernel_rfl) rfl
    (fun f fn hf hfn => by
      obtain rfl : f = 9 := Option.some.inj ((show Tryd.prog.funcNamed "tenet/tenetlaw01.LevelPuts" = some 9 by kernel_rfl).symm.trans hf) |>.symm
      obtain rfl : fn = Tryd.f9 := (Option.some.inj (Tryd.func9.symm.trans hfn)).symm
      exact ⟨by kernel_rfl, fun j t ht => by
        rw [Tryd.params9] at ht
        rcases j with _ | _ | _ | _ | j
        · obtain rfl : 24 = t := by simpa using ht
          exact (show Tryd.prog.wantsStandIn 24 = false by kernel_rfl)
        · obtain rfl : 24 = t := by simpa using ht
          exact (show Tryd.prog.wantsStandIn 24 = false by kernel_rfl)
        · obtain rfl : 42 = t := by simpa using ht
          exact (show Tryd.prog.wantsStandIn 42 = false by kernel_rfl)
        · obtain rfl : 33 = t := by simpa using ht
          exact (show Tryd.prog.wantsStandIn 33 = false by kernel_rfl)
        · simp at ht⟩)
    (by kernel_rfl)
end Go.VM
namespace Go.Proofs.YtjfkhhenccochaaDoor
theorem levelPuts_holds : Rows.LevelPutsCardSaid := Go.VM.levelPuts_card
end Go.Proofs.YtjfkhhenccochaaDoor
