/- The text of any tokens (at most 200 of at most 200 bytes) is as the reference computes it, and its tokens are these. -/
import Derived.Test.YtcpdnjehmnbheaaDoorCards
import Derived.Test.YtcpdnjehmnbheaaDoorTie
import Derived.Test.YtcpdnjehmnbheaaDoorXL3
import Derived.Test.YtcpdnjehmnbheaaDoorX45
namespace Go.VM
open Go.Proofs Go Go.ChangeShapes Go.WideShapes Go.ChangeAt Go.RowKit
open Go.Proofs.YtcpdnjehmnbheaaDoor
set_option maxRecDepth 100000
set_option linter.unusedVariables false

theorem wit_lexJoins (os : Os) {H : Type} (enc : TypeId × Value → H) :
    (OpenSpec.ofChange Rows.lexJoinsSpec).preRow enc Tryd.prog Tryd.f8 [] false laidL ((laidWorld os).forCall (fun _ _ => 0) ⟨#[], #[Value.slice none 0 0], []⟩).memory #[Value.slice none 0 0] := by
  have hw : (DataW.whole enc Tryd.prog ((laidWorld os).forCall (fun _ _ => 0) ⟨#[], #[Value.slice none 0 0], []⟩).memory Tryd.f8.params.toList (OpenSpec.ofChange Rows.lexJoinsSpec).vars false #[Value.slice none 0 0].toList 8).map (fun x => (x.1, x.2.1)) =
      some ([.nil], []) := by kernel_rfl
  obtain ⟨⟨x1, x2, x3⟩, hx, hx1⟩ := Option.map_eq_some_iff.1 hw
  simp only [Prod.mk.injEq] at hx1
  obtain ⟨rfl, rfl⟩ := hx1
  exact OpenSpec.preRow_of_cond 8 hx (by kernel_rfl) (fun k hk => by cases hk) (by kernel_rfl) (laid_met os _)

theorem lexJoins_lifted (os : Os) (started : os.Started) (H : Type) (enc : TypeId × Value → H) (F : Stop.Interp) :
    ReturnsInHanded {} Tryd.checked os 8 .any ((OpenSpec.ofChange Rows.lexJoinsSpec).preRow enc Tryd.prog Tryd.f8 [] false laidL) (((OpenSpec.ofChange Rows.lexJoinsSpec).at F).post enc Tryd.prog Tryd.f8 false true false false) := by
  refine law_lifted (C := Tryd.checked) (fn := Tryd.f8) (tb := 4) H enc F own started (by kernel_rfl) Tryd.func8 rfl (by kernel_rfl) Tryd.underlying4 ?_ laidOut (by decide +kernel)
    (wit_of (C := Tryd.checked) (laidWorld os) #[Value.slice none 0 0] (World.laidAll_os _ _ _) (laid_shaped os _) (by kernel_rfl) (wit_lexJoins os enc)) (fun W h _ => glob_of W h) ?_
  · intro ds hd
    have hd : ds.length = 1 := hd
    match ds, hd with
    | [d], _ => rfl
  · intro W base args ds p hval hA
    have hA : DataW.TrodAll enc Tryd.prog W 0 (fun _ => true) true Tryd.f8.params.toList args.toList ds p := hA
    have hval : ∀ (j : Nat) t v, Tryd.f8.params[j]? = some t → args[j]? = some v → Value.okWide Tryd.prog W .any base t v := hval
    rw [Tryd.params8] at hA hval
    obtain ⟨v, d, rfl, rfl, hd⟩ := trodAll_one hA
    obtain ⟨n, K, S, O, hn, hr⟩ := open_toks (hval 0 22 v rfl rfl) hd
    refine ⟨[.sl n 3 (tokF K S O)], f8 n K O S hn, rfl, fun k hk => ?_⟩
    match k, hk with
    | 0, _ => exact hr

theorem lexJoins_row : Rows.LexJoinsSaid :=
  OpenClaim.holds_of_cond 8 Tryd.f8 rfl rfl rfl rfl rfl rfl rfl ⟨rfl, rfl, rfl, rfl, rfl⟩ rfl rfl rfl rfl rfl (by kernel_rfl) Tryd.func8 (by kernel_rfl)
    (of_decide_eq_true (by kernel_rfl)) (by unfold Func.isWrapper; rw [if_neg (of_decide_eq_false (by kernel_rfl))]; exact ⟨rfl, rfl⟩)
    (fun os started H enc _ F0 => by rw [OpenClaim.pre_eq_preRow]; exact lexJoins_lifted os started H enc F0)

theorem lexJoins_card : Rows.LexJoinsCardSaid :=
  Claim7.holds_tied_plain_at .later [] [.listed, .data] true (true, "08c15da290f9cc06b03be33f3c0f64b24333254c91ea76e25e95445fc3a9376c") false
    lexJoins_row (fun _ h => by cases h) (by kernel_rfl) (fun _ h => by cases h) lexJoins_row_tie rfl ⟨rfl, rfl⟩ (by kernel_rfl) rfl
    (fun f fn hf hfn => by
      obtain rfl : f = 8 := Option.some.inj ((show Tryd.prog.funcNamed "tenet/tenetlaw11.LexJoins" = some 8 by kernel_rfl).symm.trans hf) |>.symm
      obtain rfl : fn = Tryd.f8 := (Option.some.inj (Tryd.func8.symm.trans hfn)).symm
      exact ⟨by kernel_rfl, fun j t ht => by
        rw [Tryd.params8] at ht
        have h3 : t = 22 := by
          rcases j with _ | j
          · simpa using ht.symm
          · simp at ht
        subst h3
        exact (show Tryd.prog.wantsStandIn 22 = false by kernel_rfl)⟩)
    (by kernel_rfl)
end Go.VM
namespace Go.Proofs.YtcpdnjehmnbheaaDoor
theorem lexJoins_holds : Rows.LexJoinsCardSaid := Go.VM.lexJoins_card
end Go.Proofs.YtcpdnjehmnbheaaDoor
