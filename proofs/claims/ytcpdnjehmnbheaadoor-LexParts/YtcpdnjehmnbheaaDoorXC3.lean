/- Two sources with a line feed between them have the tokens of both: the card of LexParts holds, with no condition of its own. -/
import Derived.Test.YtcpdnjehmnbheaaDoorXL
import Derived.Test.YtcpdnjehmnbheaaDoorX23
import Derived.Test.YtcpdnjehmnbheaaDoorCards
import Derived.Test.YtcpdnjehmnbheaaDoorTie
namespace Go.VM
open Go.Proofs Go Go.ChangeShapes Go.WideShapes Go.ChangeAt Go.RowKit
open Go.Proofs.YtcpdnjehmnbheaaDoor
set_option maxRecDepth 100000
set_option linter.unusedVariables false

theorem wit_lexParts (os : Os) {H : Type} (enc : TypeId × Value → H) :
    (OpenSpec.ofChange Rows.lexPartsSpec).preRow enc Tryd.prog Tryd.f5 [] false laidL ((laidWorld os).forCall (fun _ _ => 0) ⟨#[], #[Value.string ⟨#[]⟩, Value.string ⟨#[]⟩], []⟩).memory #[Value.string ⟨#[]⟩, Value.string ⟨#[]⟩] := by
  have hw : (DataW.whole enc Tryd.prog ((laidWorld os).forCall (fun _ _ => 0) ⟨#[], #[Value.string ⟨#[]⟩, Value.string ⟨#[]⟩], []⟩).memory Tryd.f5.params.toList (OpenSpec.ofChange Rows.lexPartsSpec).vars false #[Value.string ⟨#[]⟩, Value.string ⟨#[]⟩].toList 8).map (fun x => (x.1, x.2.1)) =
      some ([.lit (.string []), .lit (.string [])], []) := by kernel_rfl
  obtain ⟨⟨x1, x2, x3⟩, hx, hx1⟩ := Option.map_eq_some_iff.1 hw
  simp only [Prod.mk.injEq] at hx1
  obtain ⟨rfl, rfl⟩ := hx1
  exact OpenSpec.preRow_of_cond 8 hx (by kernel_rfl) (fun k hk => by cases hk) (by kernel_rfl) (laid_met os _)

theorem lexParts_lifted (os : Os) (started : os.Started) (H : Type) (enc : TypeId × Value → H) (F : Stop.Interp) :
    ReturnsInHanded {} Tryd.checked os 5 .any ((OpenSpec.ofChange Rows.lexPartsSpec).preRow enc Tryd.prog Tryd.f5 [] false laidL) (((OpenSpec.ofChange Rows.lexPartsSpec).at F).post enc Tryd.prog Tryd.f5 false true false false) := by
  refine law_lifted (C := Tryd.checked) (fn := Tryd.f5) (tb := 4) H enc F own started (by kernel_rfl) Tryd.func5 rfl (by kernel_rfl) Tryd.underlying4 ?_ laidOut (by decide +kernel)
    (wit_of (C := Tryd.checked) (laidWorld os) #[Value.string ⟨#[]⟩, Value.string ⟨#[]⟩] (World.laidAll_os _ _ _) (laid_shaped os _) (by kernel_rfl) (wit_lexParts os enc)) (fun W h _ => glob_of W h) ?_
  · intro ds hd
    have hd : ds.length = 2 := hd
    match ds, hd with
    | [d0, d1], _ => rfl
  · intro W base args ds p hval hA
    have hA : DataW.TrodAll enc Tryd.prog W 0 (fun _ => true) true Tryd.f5.params.toList args.toList ds p := hA
    have hval : ∀ (j : Nat) t v, Tryd.f5.params[j]? = some t → args[j]? = some v → Value.okWide Tryd.prog W .any base t v := hval
    rw [Tryd.params5] at hA hval
    obtain ⟨v0, v1, d0, d1, p0, p1, rfl, rfl, rfl, hd0, hd1⟩ := trodAll_two hA
    obtain ⟨s0, rfl, rfl, rfl, hs0⟩ := ChangeMaps.open_string Tryd.underlying9 (hval 0 9 v0 rfl rfl) hd0
    obtain ⟨s1, rfl, rfl, rfl, hs1⟩ := ChangeMaps.open_string Tryd.underlying9 (hval 1 9 v1 rfl rfl) hd1
    refine ⟨[.str s0, .str s1], f5 s0 s1, rfl, fun k hk => ?_⟩
    match k, hk with
    | 0, _ => exact .str s0
    | 1, _ => exact .str s1

theorem lexParts_row : Rows.LexPartsSaid :=
  OpenClaim.holds_of_cond 5 Tryd.f5 rfl rfl rfl rfl rfl rfl rfl ⟨rfl, rfl, rfl, rfl, rfl⟩ rfl rfl rfl rfl rfl (by kernel_rfl) Tryd.func5 (by kernel_rfl)
    (of_decide_eq_true (by kernel_rfl)) (by unfold Func.isWrapper; rw [if_neg (of_decide_eq_false (by kernel_rfl))]; exact ⟨rfl, rfl⟩)
    (fun os started H enc _ F0 => by rw [OpenClaim.pre_eq_preRow]; exact lexParts_lifted os started H enc F0)

theorem lexParts_card : Rows.LexPartsCardSaid :=
  Claim7.holds_tied_plain_at .later [] [.listed, .data] true (true, "08c15da290f9cc06b03be33f3c0f64b24333254c91ea76e25e95445fc3a9376c") false
    lexParts_row (fun _ h => by cases h) (by kernel_rfl) (fun _ h => by cases h) lexParts_row_tie rfl ⟨rfl, rfl⟩ (by kernel_rfl) rfl
    (fun f fn hf hfn => by
      obtain rfl : f = 5 := Option.some.inj ((show Tryd.prog.funcNamed "tenet/tenetlaw11.LexParts" = some 5 by kernel_rfl).symm.trans hf) |>.symm
      obtain rfl : fn = Tryd.f5 := (Option.some.inj (Tryd.func5.symm.trans hfn)).symm
      exact ⟨by kernel_rfl, fun j t ht => by
        rw [Tryd.params5] at ht
        rcases j with _ | _ | j
        · obtain rfl : 9 = t := by simpa using ht
          exact (show Tryd.prog.wantsStandIn 9 = false by kernel_rfl)
        · obtain rfl : 9 = t := by simpa using ht
          exact (show Tryd.prog.wantsStandIn 9 = false by kernel_rfl)
        · simp at ht⟩)
    (by kernel_rfl)
end Go.VM
namespace Go.Proofs.YtcpdnjehmnbheaaDoor
theorem lexParts_holds : Rows.LexPartsCardSaid := Go.VM.lexParts_card
end Go.Proofs.YtcpdnjehmnbheaaDoor
