/- A token more behind a source, behind a blank, is a token more: the card of LexRights holds, with no condition of its own. -/
import Derived.Test.YtcpdnjehmnbheaaDoorCards
import Derived.Test.YtcpdnjehmnbheaaDoorTie
import Derived.Test.YtcpdnjehmnbheaaDoorXG4
import Derived.Test.YtcpdnjehmnbheaaDoorX24
namespace Go.VM
open Go.Proofs Go Go.ChangeShapes Go.WideShapes Go.ChangeAt Go.RowKit
open Go.Proofs.YtcpdnjehmnbheaaDoor
set_option maxRecDepth 100000
set_option linter.unusedVariables false

theorem wit_lexRights (os : Os) {H : Type} (enc : TypeId × Value → H) :
    (OpenSpec.ofChange Rows.lexRightsSpec).preRow enc Tryd.prog Tryd.f6 [] false laidL ((laidWorld os).forCall (fun _ _ => 0) ⟨#[], #[Value.string ⟨#[]⟩, Value.agg #[.int .i64 0, .string ⟨#[]⟩, .int .i64 0]], []⟩).memory #[Value.string ⟨#[]⟩, Value.agg #[.int .i64 0, .string ⟨#[]⟩, .int .i64 0]] := by
  have hw : (DataW.whole enc Tryd.prog ((laidWorld os).forCall (fun _ _ => 0) ⟨#[], #[Value.string ⟨#[]⟩, Value.agg #[.int .i64 0, .string ⟨#[]⟩, .int .i64 0]], []⟩).memory Tryd.f6.params.toList (OpenSpec.ofChange Rows.lexRightsSpec).vars false #[Value.string ⟨#[]⟩, Value.agg #[.int .i64 0, .string ⟨#[]⟩, .int .i64 0]].toList 8).map (fun x => (x.1, x.2.1)) =
      some ([.lit (.string []), .agg [.lit (.int .i64 0), .lit (.string []), .lit (.int .i64 0)]], []) := by kernel_rfl
  obtain ⟨⟨x1, x2, x3⟩, hx, hx1⟩ := Option.map_eq_some_iff.1 hw
  simp only [Prod.mk.injEq] at hx1
  obtain ⟨rfl, rfl⟩ := hx1
  exact OpenSpec.preRow_of_cond 8 hx (by kernel_rfl) (fun k hk => by cases hk) (by kernel_rfl) (laid_met os _)

theorem lexRights_lifted (os : Os) (started : os.Started) (H : Type) (enc : TypeId × Value → H) (F : Stop.Interp) :
    ReturnsInHanded {} Tryd.checked os 6 .any ((OpenSpec.ofChange Rows.lexRightsSpec).preRow enc Tryd.prog Tryd.f6 [] false laidL) (((OpenSpec.ofChange Rows.lexRightsSpec).at F).post enc Tryd.prog Tryd.f6 false true false false) := by
  refine law_lifted2 (C := Tryd.checked) (fn := Tryd.f6) (tb := 4) H enc F own started (by kernel_rfl) Tryd.func6 rfl (by kernel_rfl) Tryd.underlying4 ?_ laidOut (by decide +kernel)
    (wit_of (C := Tryd.checked) (laidWorld os) #[Value.string ⟨#[]⟩, Value.agg #[.int .i64 0, .string ⟨#[]⟩, .int .i64 0]] (World.laidAll_os _ _ _) (laid_shaped os _) (by kernel_rfl) (wit_lexRights os enc)) (fun W h _ => glob_of W h) ?_
  · intro ds hd
    have hd : ds.length = 2 := hd
    match ds, hd with
    | [d0, d1], _ => rfl
  · intro W base args ds p hval hA
    have hA : DataW.TrodAll enc Tryd.prog W 0 (fun _ => true) true Tryd.f6.params.toList args.toList ds p := hA
    have hval : ∀ (j : Nat) t v, Tryd.f6.params[j]? = some t → args[j]? = some v → Value.okWide Tryd.prog W .any base t v := hval
    rw [Tryd.params6] at hA hval
    obtain ⟨v0, v1, d0, d1, p0, p1, rfl, rfl, rfl, hd0, hd1⟩ := trodAll_two hA
    obtain ⟨s0, rfl, rfl, rfl, hs0⟩ := ChangeMaps.open_string Tryd.underlying9 (hval 0 9 v0 rfl rfl) hd0
    obtain ⟨k1, s1, a1, rfl⟩ := open_token (hval 1 32 v1 rfl rfl) hd1
    refine ⟨[.d (.str s0), .agg [.d (.int .i64 k1), .d (.str s1), .d (.int .i64 a1)]], f6 s0 s1 k1 a1, rfl, fun k hk => ?_⟩
    match k, hk with
    | 0, _ => exact .d _ _ (.str s0)
    | 1, _ => exact rep_ints _ _ _ _ _ _ (.int .i64 k1) (.str s1) (.int .i64 a1)

theorem lexRights_row : Rows.LexRightsSaid :=
  OpenClaim.holds_of_cond 6 Tryd.f6 rfl rfl rfl rfl rfl rfl rfl ⟨rfl, rfl, rfl, rfl, rfl⟩ rfl rfl rfl rfl rfl (by kernel_rfl) Tryd.func6 (by kernel_rfl)
    (of_decide_eq_true (by kernel_rfl)) (by unfold Func.isWrapper; rw [if_neg (of_decide_eq_false (by kernel_rfl))]; exact ⟨rfl, rfl⟩)
    (fun os started H enc _ F0 => by rw [OpenClaim.pre_eq_preRow]; exact lexRights_lifted os started H enc F0)

theorem lexRights_card : Rows.LexRightsCardSaid :=
  Claim7.holds_tied_plain_at .later [] [.listed, .data] true (true, "08c15da290f9cc06b03be33f3c0f64b24333254c91ea76e25e95445fc3a9376c") false
    lexRights_row (fun _ h => by cases h) (by kernel_rfl) (fun _ h => by cases h) lexRights_row_tie rfl ⟨rfl, rfl⟩ (by kernel_rfl) rfl
    (fun f fn hf hfn => by
      obtain rfl : f = 6 := Option.some.inj ((show Tryd.prog.funcNamed "tenet/tenetlaw11.LexRights" = some 6 by kernel_rfl).symm.trans hf) |>.symm
      obtain rfl : fn = Tryd.f6 := (Option.some.inj (Tryd.func6.symm.trans hfn)).symm
      exact ⟨by kernel_rfl, fun j t ht => by
        rw [Tryd.params6] at ht
        rcases j with _ | _ | j
        · obtain rfl : 9 = t := by simpa using ht
          exact (show Tryd.prog.wantsStandIn 9 = false by kernel_rfl)
        · obtain rfl : 32 = t := by simpa using ht
          exact (show Tryd.prog.wantsStandIn 32 = false by kernel_rfl)
        · simp at ht⟩)
    (by kernel_rfl)
end Go.VM
namespace Go.Proofs.YtcpdnjehmnbheaaDoor
theorem lexRights_holds : Rows.LexRightsCardSaid := Go.VM.lexRights_card
end Go.Proofs.YtcpdnjehmnbheaaDoor
