/- Proved: whether any level is valid, its canonical form, and its variables, are as the chapter says (P1.1, P1.4; at most 40 parts). Conditions: none beyond those of the given card. -/
import Derived.Test.YtjfkhhenccochaaDoorCards
import Derived.Test.YtjfkhhenccochaaDoorTie
import Derived.Test.YtjfkhhenccochaaDoorGX9
import Derived.Test.YtjfkhhenccochaaDoorGX10
namespace Go.VM
open Go.Proofs Go Go.ChangeShapes Go.WideShapes Go.ChangeAt Go.RowKit
open Go.Proofs.YtjfkhhenccochaaDoor
set_option maxRecDepth 100000
set_option linter.unusedVariables false

theorem wit_levelForms (os : Os) {H : Type} (enc : TypeId × Value → H) :
    (OpenSpec.ofChange Rows.levelFormsSpec).preRow enc Tryd.prog Tryd.f10 [] false laidL ((laidWorld os).forCall (fun _ _ => 0) ⟨#[], #[Value.agg #[.int .i64 0, .slice none 0 0]], []⟩).memory #[Value.agg #[.int .i64 0, .slice none 0 0]] := by
  have hw : (DataW.whole enc Tryd.prog ((laidWorld os).forCall (fun _ _ => 0) ⟨#[], #[Value.agg #[.int .i64 0, .slice none 0 0]], []⟩).memory Tryd.f10.params.toList (OpenSpec.ofChange Rows.levelFormsSpec).vars false #[Value.agg #[.int .i64 0, .slice none 0 0]].toList 8).map (fun x => (x.1, x.2.1)) =
      some ([.agg [.lit (.int .i64 0), .nil]], []) := by kernel_rfl
  obtain ⟨⟨x1, x2, x3⟩, hx, hx1⟩ := Option.map_eq_some_iff.1 hw
  simp only [Prod.mk.injEq] at hx1
  obtain ⟨rfl, rfl⟩ := hx1
  exact OpenSpec.preRow_of_cond 8 hx (by kernel_rfl) (fun k hk => by cases hk) (by kernel_rfl) (laid_met os _)

theorem levelForms_lifted (os : Os) (started : os.Started) (H : Type) (enc : TypeId × Value → H) (F : Stop.Interp) :
    ReturnsInHanded {} Tryd.checked os 10 .any ((OpenSpec.ofChange Rows.levelFormsSpec).preRow enc Tryd.prog Tryd.f10 [] false laidL) (((OpenSpec.ofChange Rows.levelFormsSpec).at F).post enc Tryd.prog Tryd.f10 false true false false) := by
  refine law_lifted2 (C := Tryd.checked) (fn := Tryd.f10) (tb := 4) H enc F own started (by kernel_rfl) Tryd.func10 rfl (by kernel_rfl) Tryd.underlying4 ?_ laidOut (by decide +kernel)
    (wit_of (C := Tryd.checked) (laidWorld os) #[Value.agg #[.int .i64 0, .slice none 0 0]] (World.laidAll_os _ _ _) (laid_shaped os _) (by kernel_rfl) (wit_levelForms os enc)) (fun W h _ => glob_of W h) ?_
  · intro ds hd
    have hd : ds.length = 1 := hd
    match ds, hd with
    | [d0], _ => rfl
  · intro W base args ds p hval hA
    have hA : DataW.TrodAll enc Tryd.prog W 0 (fun _ => true) true Tryd.f10.params.toList args.toList ds p := hA
    have hval : ∀ (j : Nat) t v, Tryd.f10.params[j]? = some t → args[j]? = some v → Value.okWide Tryd.prog W .any base t v := hval
    rw [Tryd.params10] at hA hval
    obtain ⟨vs, hvs⟩ : ∃ vs, args = ⟨vs⟩ := ⟨args.toList, rfl⟩
    subst hvs
    obtain ⟨v0, vs0, d0, ds0, p0, q0, hv0, rfl, rfl, hd0, hA0⟩ := trodAll_cons hA
    try dsimp only at hv0
    subst hv0
    obtain ⟨rfl, rfl, rfl⟩ := trodAll_nil hA0
    obtain ⟨c0, n0, V0, P0, hn0, hr0⟩ := open_level (hval 0 24 v0 rfl rfl) hd0
    refine ⟨[lv c0 n0 V0 P0], lawForms _ _ _ _ hn0, rfl, fun k hk => ?_⟩
    match k, hk with
    | 0, _ => exact hr0 _ _

theorem levelForms_row : Rows.LevelFormsSaid :=
  OpenClaim.holds_of_cond 10 Tryd.f10 rfl rfl rfl rfl rfl rfl rfl ⟨rfl, rfl, rfl, rfl, rfl⟩ rfl rfl rfl rfl rfl (by kernel_rfl) Tryd.func10 (by kernel_rfl)
    (of_decide_eq_true (by kernel_rfl)) (by unfold Func.isWrapper; rw [if_neg (of_decide_eq_false (by kernel_rfl))]; exact ⟨rfl, rfl⟩)
    (fun os started H enc _ F0 => by rw [OpenClaim.pre_eq_preRow]; exact levelForms_lifted os started H enc F0)

theorem levelForms_card : Rows.LevelFormsCardSaid :=
  Claim7.holds_tied_plain_at .later [] [.data, .data, .data] true (true, "6d0cf40c818d4a4966a7912ad0ed6143e63c87d56d60ac35c1914771d37a7a37") false
    levelForms_row (fun _ h => by cases h) (by kernel_rfl) (fun _ h => by cases h) levelForms_row_tie rfl ⟨rfl, rfl⟩ (by kernel_rfl) rfl
    (fun f fn hf hfn => by
      obtain rfl : f = 10 := Option.some.inj ((show Tryd.prog.funcNamed "tenet/tenetlaw01.LevelForms" = some 10 by kernel_rfl).symm.trans hf) |>.symm
      obtain rfl : fn = Tryd.f10 := (Option.some.inj (Tryd.func10.symm.trans hfn)).symm
      exact ⟨by kernel_rfl, fun j t ht => by
        rw [Tryd.params10] at ht
        rcases j with _ | j
        · obtain rfl : 24 = t := by simpa using ht
          exact (show Tryd.prog.wantsStandIn 24 = false by kernel_rfl)
        · simp at ht⟩)
    (by kernel_rfl)
end Go.VM
namespace Go.Proofs.YtjfkhhenccochaaDoor
theorem levelForms_holds : Rows.LevelFormsCardSaid := Go.VM.levelForms_card
end Go.Proofs.YtjfkhhenccochaaDoor
