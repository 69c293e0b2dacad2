/- The tokens of any source, or its first fault, are as the chapter says: the card of LexTokens holds, with no condition of its own. -/
import Derived.Test.YtcpdnjehmnbheaaDoorXL
import Derived.Test.YtcpdnjehmnbheaaDoorCards
import Derived.Test.YtcpdnjehmnbheaaDoorTie
namespace Go.VM
open Go.Proofs Go Go.ChangeShapes Go.WideShapes Go.ChangeAt Go.RowKit
open Go.Proofs.YtcpdnjehmnbheaaDoor
set_option maxRecDepth 100000
set_option linter.unusedVariables false

theorem wit_lexTokens (os : Os) {H : Type} (enc : TypeId × Value → H) :
    (OpenSpec.ofChange Rows.lexTokensSpec).preRow enc Tryd.prog Tryd.f3 [] false laidL ((laidWorld os).forCall (fun _ _ => 0) ⟨#[], #[.string ⟨#[]⟩], []⟩).memory #[.string ⟨#[]⟩] := by
  have hw : (DataW.whole enc Tryd.prog ((laidWorld os).forCall (fun _ _ => 0) ⟨#[], #[.string ⟨#[]⟩], []⟩).memory Tryd.f3.params.toList (OpenSpec.ofChange Rows.lexTokensSpec).vars false #[Value.string ⟨#[]⟩].toList 8).map (fun x => (x.1, x.2.1)) =
      some ([.lit (.string [])], []) := by kernel_rfl
  obtain ⟨⟨x1, x2, x3⟩, hx, hx1⟩ := Option.map_eq_some_iff.1 hw
  simp only [Prod.mk.injEq] at hx1
  obtain ⟨rfl, rfl⟩ := hx1
  exact OpenSpec.preRow_of_cond 8 hx (by kernel_rfl) (fun k hk => by cases hk) (by kernel_rfl) (laid_met os _)

theorem lexTokens_lifted (os : Os) (started : os.Started) (H : Type) (enc : TypeId × Value → H) (F : Stop.Interp) :
    ReturnsInHanded {} Tryd.checked os 3 .any ((OpenSpec.ofChange Rows.lexTokensSpec).preRow enc Tryd.prog Tryd.f3 [] false laidL) (((OpenSpec.ofChange Rows.lexTokensSpec).at F).post enc Tryd.prog Tryd.f3 false true false false) := by
  refine law_lifted (C := Tryd.checked) (fn := Tryd.f3) (tb := 4) H enc F own started (by kernel_rfl) Tryd.func3 rfl (by kernel_rfl) Tryd.underlying4 ?_ laidOut (by decide +kernel)
    (wit_of (C := Tryd.checked) (laidWorld os) #[.string ⟨#[]⟩] (World.laidAll_os _ _ _) (laid_shaped os _) (by kernel_rfl) (wit_lexTokens os enc)) (fun W h _ => glob_of W h) ?_
  · intro ds hd
    have hd : ds.length = 1 := hd
    match ds, hd with
    | [d], _ => rfl
  · intro W base args ds p hval hA
    have hA : DataW.TrodAll enc Tryd.prog W 0 (fun _ => true) true Tryd.f3.params.toList args.toList ds p := hA
    have hval : ∀ (j : Nat) t v, Tryd.f3.params[j]? = some t → args[j]? = some v → Value.okWide Tryd.prog W .any base t v := hval
    rw [Tryd.params3] at hA hval
    obtain ⟨v, d, rfl, rfl, hd⟩ := trodAll_one hA
    obtain ⟨s, rfl, rfl, rfl, hs⟩ := ChangeMaps.open_string Tryd.underlying9 (hval 0 9 v rfl rfl) hd
    refine ⟨[.str s], f3 s, rfl, fun k hk => ?_⟩
    match k, hk with
    | 0, _ => exact .str s

theorem lexTokens_row : Rows.LexTokensSaid :=
  OpenClaim.holds_of_cond 3 Tryd.f3 rfl rfl rfl rfl rfl rfl rfl ⟨rfl, rfl, rfl, rfl, rfl⟩ rfl rfl rfl rfl rfl (by kernel_rfl) Tryd.func3 (by kernel_rfl)
    (of_decide_eq_true (by kernel_rfl)) (by unfold Func.isWrapper; rw [if_neg (of_decide_eq_false (by kernel_rfl))]; exact ⟨rfl, rfl⟩)
    (fun os started H enc _ F0 => by rw [OpenClaim.pre_eq_preRow]; exact lexTokens_lifted os started H enc F0)

theorem lexTokens_card : Rows.LexTokensCardSaid :=
  Claim7.holds_tied_plain_at .later [] [.listed, .data] true (true, "08c15da290f9cc06b03be33f3c0f64b24333254c91ea76e25e95445fc3a9376c") false
    lexTokens_row (fun _ h => by cases h) (by kernel_rfl) (fun _ h => by cases h) lexTokens_row_tie rfl ⟨rfl, rfl⟩ (by kernel_rfl) rfl
    (fun f fn hf hfn => by
      obtain rfl : f = 3 := Option.some.inj ((show Tryd.prog.funcNamed "tenet/tenetlaw11.LexTokens" = some 3 by kernel_rfl).symm.trans hf) |>.symm
      obtain rfl : fn = Tryd.f3 := (Option.some.inj (Tryd.func3.symm.trans hfn)).symm
      exact ⟨by kernel_rfl, fun j t ht => by
        rw [Tryd.params3] at ht
        have h3 : t = 9 := by
          rcases j with _ | j
          · simpa using ht.symm
          · simp at ht
        subst h3
        exact (show Tryd.prog.wantsStandIn 9 = false by kernel_rfl)⟩)
    (by kernel_rfl)
end Go.VM
namespace Go.Proofs.YtcpdnjehmnbheaaDoor
theorem lexTokens_holds : Rows.LexTokensCardSaid := Go.VM.lexTokens_card
end Go.Proofs.YtcpdnjehmnbheaaDoor
