/- The line and the column of any offset of any source of at most 20,000 bytes, and the source without comments, are as the reference computes them. -/
import Derived.Test.YtcpdnjehmnbheaaDoorCards
import Derived.Test.YtcpdnjehmnbheaaDoorTie
import Derived.Test.YtcpdnjehmnbheaaDoorXG4
import Derived.Test.YtcpdnjehmnbheaaDoorX35
namespace Go.VM
open Go.Proofs Go Go.ChangeShapes Go.WideShapes Go.ChangeAt Go.RowKit
open Go.Proofs.YtcpdnjehmnbheaaDoor
set_option maxRecDepth 100000
set_option linter.unusedVariables false

theorem wit_lexPlaces (os : Os) {H : Type} (enc : TypeId × Value → H) :
    (OpenSpec.ofChange Rows.lexPlacesSpec).preRow enc Tryd.prog Tryd.f9 [] false laidL ((laidWorld os).forCall (fun _ _ => 0) ⟨#[], #[Value.string ⟨#[]⟩, Value.int .i64 0], []⟩).memory #[Value.string ⟨#[]⟩, Value.int .i64 0] := by
  have hw : (DataW.whole enc Tryd.prog ((laidWorld os).forCall (fun _ _ => 0) ⟨#[], #[Value.string ⟨#[]⟩, Value.int .i64 0], []⟩).memory Tryd.f9.params.toList (OpenSpec.ofChange Rows.lexPlacesSpec).vars false #[Value.string ⟨#[]⟩, Value.int .i64 0].toList 8).map (fun x => (x.1, x.2.1)) =
      some ([.lit (.string []), .lit (.int .i64 0)], []) := by kernel_rfl
  obtain ⟨⟨x1, x2, x3⟩, hx, hx1⟩ := Option.map_eq_some_iff.1 hw
  simp only [Prod.mk.injEq] at hx1
  obtain ⟨rfl, rfl⟩ := hx1
  exact OpenSpec.preRow_of_cond 8 hx (by kernel_rfl) (fun k hk => by cases hk) (by kernel_rfl) (laid_met os _)

theorem lexPlaces_lifted (os : Os) (started : os.Started) (H : Type) (enc : TypeId × Value → H) (F : Stop.Interp) :
    ReturnsInHanded {} Tryd.checked os 9 .any ((OpenSpec.ofChange Rows.lexPlacesSpec).preRow enc Tryd.prog Tryd.f9 [] false laidL) (((OpenSpec.ofChange Rows.lexPlacesSpec).at F).post enc Tryd.prog Tryd.f9 false true false false) := by
  refine law_lifted (C := Tryd.checked) (fn := Tryd.f9) (tb := 4) H enc F own started (by kernel_rfl) Tryd.func9 rfl (by kernel_rfl) Tryd.underlying4 ?_ laidOut (by decide +kernel)
    (wit_of (C := Tryd.checked) (laidWorld os) #[Value.string ⟨#[]⟩, Value.int .i64 0] (World.laidAll_os _ _ _) (laid_shaped os _) (by kernel_rfl) (wit_lexPlaces os enc)) (fun W h _ => glob_of W h) ?_
  · intro ds hd
    have hd : ds.length = 2 := hd
    match ds, hd with
    | [d0, d1], _ => rfl
  · intro W base args ds p hval hA
    have hA : DataW.TrodAll enc Tryd.prog W 0 (fun _ => true) true Tryd.f9.params.toList args.toList ds p := hA
    have hval : ∀ (j : Nat) t v, Tryd.f9.params[j]? = some t → args[j]? = some v → Value.okWide Tryd.prog W .any base t v := hval
    rw [Tryd.params9] at hA hval
    obtain ⟨v0, v1, d0, d1, p0, p1, rfl, rfl, rfl, hd0, hd1⟩ := trodAll_two hA
    obtain ⟨s0, rfl, rfl, rfl, hs0⟩ := ChangeMaps.open_string Tryd.underlying9 (hval 0 9 v0 rfl rfl) hd0
    obtain ⟨s1, rfl, rfl, rfl, hs1⟩ := open_int Tryd.underlying3 (hval 1 3 v1 rfl rfl) hd1
    refine ⟨[.str s0, .int .i64 s1], f9 s0 s1, rfl, fun k hk => ?_⟩
    match k, hk with
    | 0, _ => exact .str s0
    | 1, _ => exact .int .i64 s1

theorem lexPlaces_row : Rows.LexPlacesSaid :=
  OpenClaim.holds_of_cond 9 Tryd.f9 rfl rfl rfl rfl rfl rfl rfl ⟨rfl, rfl, rfl, rfl, rfl⟩ rfl rfl rfl rfl rfl (by kernel_rfl) Tryd.func9 (by kernel_rfl)
    (of_decide_eq_true (by kernel_rfl)) (by unfold Func.isWrapper; rw [if_neg (of_decide_eq_false (by kernel_rfl))]; exact ⟨rfl, rfl⟩)
    (fun os started H enc _ F0 => by rw [OpenClaim.pre_eq_preRow]; exact lexPlaces_lifted os started H enc F0)

theorem lexPlaces_card : Rows.LexPlacesCardSaid :=
  Claim7.holds_tied_plain_at .later [] [.listed, .data] true (true, "08c15da290f9cc06b03be33f3c0f64b24333254c91ea76e25e95445fc3a9376c") false
    lexPlaces_row (fun _ h => by cases h) (by kernel_rfl) (fun _ h => by cases h) lexPlaces_row_tie rfl ⟨rfl, rfl⟩ (by kernel_rfl) rfl
    (fun f fn hf hfn => by
      obtain rfl : f = 9 := Option.some.inj ((show Tryd.prog.funcNamed "tenet/tenetlaw11.LexPlaces" = some 9 by kernel_rfl).symm.trans hf) |>.symm
      obtain rfl : fn = Tryd.f9 := (Option.some.inj (Tryd.func9.symm.trans hfn)).symm
      exact ⟨by kernel_rfl, fun j t ht => by
        rw [Tryd.params9] at ht
        rcases j with _ | _ | j
        · obtain rfl : 9 = t := by simpa using ht
          exact (show Tryd.prog.wantsStandIn 9 = false by kernel_rfl)
        · obtain rfl : 3 = t := by simpa using ht
          exact (show Tryd.prog.wantsStandIn 3 = false by kernel_rfl)
        · simp at ht⟩)
    (by kernel_rfl)
end Go.VM
namespace Go.Proofs.YtcpdnjehmnbheaaDoor
theorem lexPlaces_holds : Rows.LexPlacesCardSaid := Go.VM.lexPlaces_card
end Go.Proofs.YtcpdnjehmnbheaaDoor
