/- Proved: the level variables, names and holes of any term, and any levels put in, are as the chapter says (P3.6; at most 400 nodes, 40 levels of at most 40 parts). Conditions: none beyond those of the given card. -/
import Derived.Test.YtfbecfnagidioaaGreatDoorCards
import Derived.Test.YtfbecfnagidioaaGreatDoorTie
import Derived.Test.YtfbecfnagidioaaGreatDoorGX7
import Derived.Test.YtfbecfnagidioaaGreatDoorGX19
namespace Go.VM
open Go.Proofs Go Go.ChangeShapes Go.WideShapes Go.ChangeAt Go.RowKit
open Go.Proofs.YtfbecfnagidioaaGreatDoor
set_option maxRecDepth 100000
set_option linter.unusedVariables false

theorem wit_termLevels (os : Os) {H : Type} (enc : TypeId × Value → H) :
    (OpenSpec.ofChange Rows.termLevelsSpec).preRow enc Tryz.prog Tryz.f6 [] false laidL ((laidWorld os).forCall (fun _ _ => 0) ⟨#[], #[Value.agg #[.int .i64 0, .int .i64 0, .string ⟨#[]⟩, .slice none 0 0, .slice none 0 0], Value.slice none 0 0], []⟩).memory #[Value.agg #[.int .i64 0, .int .i64 0, .string ⟨#[]⟩, .slice none 0 0, .slice none 0 0], Value.slice none 0 0] := by
  have hw : (DataW.whole enc Tryz.prog ((laidWorld os).forCall (fun _ _ => 0) ⟨#[], #[Value.agg #[.int .i64 0, .int .i64 0, .string ⟨#[]⟩, .slice none 0 0, .slice none 0 0], Value.slice none 0 0], []⟩).memory Tryz.f6.params.toList (OpenSpec.ofChange Rows.termLevelsSpec).vars false #[Value.agg #[.int .i64 0, .int .i64 0, .string ⟨#[]⟩, .slice none 0 0, .slice none 0 0], Value.slice none 0 0].toList 8).map (fun x => (x.1, x.2.1)) =
      some ([.agg [.lit (.int .i64 0), .lit (.int .i64 0), .lit (.string []), .nil, .nil], .nil], []) := by kernel_rfl
  obtain ⟨⟨x1, x2, x3⟩, hx, hx1⟩ := Option.map_eq_some_iff.1 hw
  simp only [Prod.mk.injEq] at hx1
  obtain ⟨rfl, rfl⟩ := hx1
  exact OpenSpec.preRow_of_cond 8 hx (by kernel_rfl) (fun k hk => by cases hk) (by kernel_rfl) (laid_met os _)

theorem termLevels_lifted (os : Os) (started : os.Started) (H : Type) (enc : TypeId × Value → H) (F : Stop.Interp) :
    ReturnsInHanded {} Tryz.checked os 6 .any ((OpenSpec.ofChange Rows.termLevelsSpec).preRow enc Tryz.prog Tryz.f6 [] false laidL) (((OpenSpec.ofChange Rows.termLevelsSpec).at F).post enc Tryz.prog Tryz.f6 false true false false) := by
  refine law_lifted2 (C := Tryz.checked) (fn := Tryz.f6) (tb := 4) H enc F own started (by kernel_rfl) Tryz.func6 rfl (by kernel_rfl) Tryz.underlying4 ?_ laidOut (by decide +kernel)
    (wit_of (C := Tryz.checked) (laidWorld os) #[Value.agg #[.int .i64 0, .int .i64 0, .string ⟨#[]⟩, .slice none 0 0, .slice none 0 0], Value.slice none 0 0] (World.laidAll_os _ _ _) (laid_shaped os _) (by kernel_rfl) (wit_termLevels os enc)) (fun W h _ => glob_of W h) ?_
  · intro ds hd
    have hd : ds.length = 2 := hd
    match ds, hd with
    | [d0, d1], _ => rfl
  · intro W base args ds p hval hA
    have hA : DataW.TrodAll enc Tryz.prog W 0 (fun _ => true) true Tryz.f6.params.toList args.toList ds p := hA
    have hval : ∀ (j : Nat) t v, Tryz.f6.params[j]? = some t → args[j]? = some v → Value.okWide Tryz.prog W .any base t v := hval
    rw [Tryz.params6] at hA hval
    obtain ⟨vs, hvs⟩ : ∃ vs, args = ⟨vs⟩ := ⟨args.toList, rfl⟩
    subst hvs
    obtain ⟨v0, vs0, d0, ds0, p0, q0, hv0, rfl, rfl, hd0, hA0⟩ := trodAll_cons hA
    try dsimp only at hv0
    subst hv0
    obtain ⟨v1, vs1, d1, ds1, p1, q1, hv1, rfl, rfl, hd1, hA1⟩ := trodAll_cons hA0
    try dsimp only at hv1
    subst hv1
    obtain ⟨rfl, rfl, rfl⟩ := trodAll_nil hA1
    obtain ⟨t0, hr0⟩ := open_term (hval 0 25 v0 rfl rfl) hd0
    obtain ⟨m1, C1, N1, V1, P1, hm1, hn1, hr1⟩ := open_levels (hval 1 22 v1 rfl rfl) hd1
    refine ⟨[tm t0, .d (.sl m1 2 (lsF C1 N1 V1 P1))], lawTermLevels _ _ _ _ _ _ hm1 hn1, rfl, fun k hk => ?_⟩
    match k, hk with
    | 0, _ => exact hr0 _ _
    | 1, _ => exact hr1 _ _

theorem termLevels_row : Rows.TermLevelsSaid :=
  OpenClaim.holds_of_cond 6 Tryz.f6 rfl rfl rfl rfl rfl rfl rfl ⟨rfl, rfl, rfl, rfl, rfl⟩ rfl rfl rfl rfl rfl (by kernel_rfl) Tryz.func6 (by kernel_rfl)
    (of_decide_eq_true (by kernel_rfl)) (by unfold Func.isWrapper; rw [if_neg (of_decide_eq_false (by kernel_rfl))]; exact ⟨rfl, rfl⟩)
    (fun os started H enc _ F0 => by rw [OpenClaim.pre_eq_preRow]; exact termLevels_lifted os started H enc F0)

theorem termLevels_card : Rows.TermLevelsCardSaid :=
  Claim7.holds_tied_plain_at .later [] [.data, .data, .data] true (true, "1da1a55c04df154c9809be5f70a41bc4713dc9ebd7287be2a98ee664ac01c169") true
    termLevels_row (fun _ h => by cases h) (by kernel_rfl) (fun _ h => by cases h) termLevels_row_tie rfl ⟨rfl, rfl⟩ (by kernel_rfl) rfl
    (fun f fn hf hfn => by
      obtain rfl : f = 6 := Option.some.inj ((show Tryz.prog.funcNamed "tenet/tenetlaw03.TermLevels" = some 6 by kernel_rfl).symm.trans hf) |>.symm
      obtain rfl : fn = Tryz.f6 := (Option.some.inj (Tryz.func6.symm.trans hfn)).symm
      exact ⟨by kernel_rfl, fun j t ht => by
        rw [Tryz.params6] at ht
        rcases j with _ | _ | j
        · obtain rfl : 25 = t := by simpa using ht
          exact (show Tryz.prog.wantsStandIn 25 = false by kernel_rfl)
        · obtain rfl : 22 = t := by simpa using ht
          exact (show Tryz.prog.wantsStandIn 22 = false by kernel_rfl)
        · simp at ht⟩)
    (by kernel_rfl)
end Go.VM
namespace Go.Proofs.YtfbecfnagidioaaGreatDoor
theorem termLevels_holds : Rows.TermLevelsCardSaid := Go.VM.termLevels_card
end Go.Proofs.YtfbecfnagidioaaGreatDoor
