/- Proved: both comparisons are equivalences; terms that are the same are alike; alike terms filled with alike terms, and put at a path, are alike (P3.10; at most 400 nodes each, 400 places). Conditions: none beyond those of the given card. -/
import Derived.Test.YtfbecfnagidioaaDoorCards
import Derived.Test.YtfbecfnagidioaaDoorTie
import Derived.Test.YtfbecfnagidioaaDoorGX7
import Derived.Test.YtfbecfnagidioaaDoorGX22
namespace Go.VM
open Go.Proofs Go Go.ChangeShapes Go.WideShapes Go.ChangeAt Go.RowKit
open Go.Proofs.YtfbecfnagidioaaDoor
set_option maxRecDepth 100000
set_option linter.unusedVariables false

theorem wit_termAlikes (os : Os) {H : Type} (enc : TypeId × Value → H) :
    (OpenSpec.ofChange Rows.termAlikesSpec).preRow enc Tryd.prog Tryd.f11 [] false laidL ((laidWorld os).forCall (fun _ _ => 0) ⟨#[], #[Value.agg #[.int .i64 0, .int .i64 0, .string ⟨#[]⟩, .slice none 0 0, .slice none 0 0], Value.agg #[.int .i64 0, .int .i64 0, .string ⟨#[]⟩, .slice none 0 0, .slice none 0 0], Value.agg #[.int .i64 0, .int .i64 0, .string ⟨#[]⟩, .slice none 0 0, .slice none 0 0], Value.slice none 0 0], []⟩).memory #[Value.agg #[.int .i64 0, .int .i64 0, .string ⟨#[]⟩, .slice none 0 0, .slice none 0 0], Value.agg #[.int .i64 0, .int .i64 0, .string ⟨#[]⟩, .slice none 0 0, .slice none 0 0], Value.agg #[.int .i64 0, .int .i64 0, .string ⟨#[]⟩, .slice none 0 0, .slice none 0 0], Value.slice none 0 0] := by
  have hw : (DataW.whole enc Tryd.prog ((laidWorld os).forCall (fun _ _ => 0) ⟨#[], #[Value.agg #[.int .i64 0, .int .i64 0, .string ⟨#[]⟩, .slice none 0 0, .slice none 0 0], Value.agg #[.int .i64 0, .int .i64 0, .string ⟨#[]⟩, .slice none 0 0, .slice none 0 0], Value.agg #[.int .i64 0, .int .i64 0, .string ⟨#[]⟩, .slice none 0 0, .slice none 0 0], Value.slice none 0 0], []⟩).memory Tryd.f11.params.toList (OpenSpec.ofChange Rows.termAlikesSpec).vars false #[Value.agg #[.int .i64 0, .int .i64 0, .string ⟨#[]⟩, .slice none 0 0, .slice none 0 0], Value.agg #[.int .i64 0, .int .i64 0, .string ⟨#[]⟩, .slice none 0 0, .slice none 0 0], Value.agg #[.int .i64 0, .int .i64 0, .string ⟨#[]⟩, .slice none 0 0, .slice none 0 0], Value.slice none 0 0].toList 8).map (fun x => (x.1, x.2.1)) =
      some ([.agg [.lit (.int .i64 0), .lit (.int .i64 0), .lit (.string []), .nil, .nil], .agg [.lit (.int .i64 0), .lit (.int .i64 0), .lit (.string []), .nil, .nil], .agg [.lit (.int .i64 0), .lit (.int .i64 0), .lit (.string []), .nil, .nil], .nil], []) := by kernel_rfl
  obtain ⟨⟨x1, x2, x3⟩, hx, hx1⟩ := Option.map_eq_some_iff.1 hw
  simp only [Prod.mk.injEq] at hx1
  obtain ⟨rfl, rfl⟩ := hx1
  exact OpenSpec.preRow_of_cond 8 hx (by kernel_rfl) (fun k hk => by cases hk) (by kernel_rfl) (laid_met os _)

theorem termAlikes_lifted (os : Os) (started : os.Started) (H : Type) (enc : TypeId × Value → H) (F : Stop.Interp) :
    ReturnsInHanded {} Tryd.checked os 11 .any ((OpenSpec.ofChange Rows.termAlikesSpec).preRow enc Tryd.prog Tryd.f11 [] false laidL) (((OpenSpec.ofChange Rows.termAlikesSpec).at F).post enc Tryd.prog Tryd.f11 false true false false) := by
  refine law_lifted2 (C := Tryd.checked) (fn := Tryd.f11) (tb := 4) H enc F own started (by kernel_rfl) Tryd.func11 rfl (by kernel_rfl) Tryd.underlying4 ?_ laidOut (by decide +kernel)
    (wit_of (C := Tryd.checked) (laidWorld os) #[Value.agg #[.int .i64 0, .int .i64 0, .string ⟨#[]⟩, .slice none 0 0, .slice none 0 0], Value.agg #[.int .i64 0, .int .i64 0, .string ⟨#[]⟩, .slice none 0 0, .slice none 0 0], Value.agg #[.int .i64 0, .int .i64 0, .string ⟨#[]⟩, .slice none 0 0, .slice none 0 0], Value.slice none 0 0] (World.laidAll_os _ _ _) (laid_shaped os _) (by kernel_rfl) (wit_termAlikes os enc)) (fun W h _ => glob_of W h) ?_
  · intro ds hd
    have hd : ds.length = 4 := hd
    match ds, hd with
    | [d0, d1, d2, d3], _ => rfl
  · intro W base args ds p hval hA
    have hA : DataW.TrodAll enc Tryd.prog W 0 (fun _ => true) true Tryd.f11.params.toList args.toList ds p := hA
    have hval : ∀ (j : Nat) t v, Tryd.f11.params[j]? = some t → args[j]? = some v → Value.okWide Tryd.prog W .any base t v := hval
    rw [Tryd.params11] at hA hval
    obtain ⟨vs, hvs⟩ : ∃ vs, args = ⟨vs⟩ := ⟨args.toList, rfl⟩
    subst hvs
    obtain ⟨v0, vs0, d0, ds0, p0, q0, hv0, rfl, rfl, hd0, hA0⟩ := trodAll_cons hA
    try dsimp only at hv0
    subst hv0
    obtain ⟨v1, vs1, d1, ds1, p1, q1, hv1, rfl, rfl, hd1, hA1⟩ := trodAll_cons hA0
    try dsimp only at hv1
    subst hv1
    obtain ⟨v2, vs2, d2, ds2, p2, q2, hv2, rfl, rfl, hd2, hA2⟩ := trodAll_cons hA1
    try dsimp only at hv2
    subst hv2
    obtain ⟨v3, vs3, d3, ds3, p3, q3, hv3, rfl, rfl, hd3, hA3⟩ := trodAll_cons hA2
    try dsimp only at hv3
    subst hv3
    obtain ⟨rfl, rfl, rfl⟩ := trodAll_nil hA3
    obtain ⟨t0, hr0⟩ := open_term (hval 0 25 v0 rfl rfl) hd0
    obtain ⟨t1, hr1⟩ := open_term (hval 1 25 v1 rfl rfl) hd1
    obtain ⟨t2, hr2⟩ := open_term (hval 2 25 v2 rfl rfl) hd2
    obtain ⟨m3, U3, hm3, hr3⟩ := open_ints64 (hval 3 45 v3 rfl rfl) hd3
    refine ⟨[tm t0, tm t1, tm t2, .d (.sl m3 1 (isF U3))], lawTermAlikes _ _ _ _ _ hm3, rfl, fun k hk => ?_⟩
    match k, hk with
    | 0, _ => exact hr0 _ _
    | 1, _ => exact hr1 _ _
    | 2, _ => exact hr2 _ _
    | 3, _ => exact hr3 _ _

theorem termAlikes_row : Rows.TermAlikesSaid :=
  OpenClaim.holds_of_cond 11 Tryd.f11 rfl rfl rfl rfl rfl rfl rfl ⟨rfl, rfl, rfl, rfl, rfl⟩ rfl rfl rfl rfl rfl (by kernel_rfl) Tryd.func11 (by kernel_rfl)
    (of_decide_eq_true (by kernel_rfl)) (by unfold Func.isWrapper; rw [if_neg (of_decide_eq_false (by kernel_rfl))]; exact ⟨rfl, rfl⟩)
    (fun os started H enc _ F0 => by rw [OpenClaim.pre_eq_preRow]; exact termAlikes_lifted os started H enc F0)

theorem termAlikes_card : Rows.TermAlikesCardSaid :=
  Claim7.holds_tied_plain_at .later [] [.data, .data, .data] true (true, "4f2f8365065d56ad86a573aa3f3df150c6308306ba4d869141c3166ccc1655fa") false
    termAlikes_row (fun _ h => by cases h) (by kernel_rfl) (fun _ h => by cases h) termAlikes_row_tie rfl ⟨rfl, rfl⟩ (by kernel_rfl) rfl
    (fun f fn hf hfn => by
      obtain rfl : f = 11 := Option.some.inj ((show Tryd.prog.funcNamed "tenet/tenetlaw03.TermAlikes" = some 11 by kernel_rfl).symm.trans hf) |>.symm
      obtain rfl : fn = Tryd.f11 := (Option.some.inj (Tryd.func11.symm.trans hfn)).symm
      exact ⟨by kernel_rfl, fun j t ht => by
        rw [Tryd.params11] at ht
        rcases j with _ | _ | _ | _ | j
        · obtain rfl : 25 = t := by simpa using ht
          exact (show Tryd.prog.wantsStandIn 25 = false by kernel_rfl)
        · obtain rfl : 25 = t := by simpa using ht
          exact (show Tryd.prog.wantsStandIn 25 = false by kernel_rfl)
        · obtain rfl : 25 = t := by simpa using ht
          exact (show Tryd.prog.wantsStandIn 25 = false by kernel_rfl)
        · obtain rfl : 45 = t := by simpa using ht
          exact (show Tryd.prog.wantsStandIn 45 = false by kernel_rfl)
        · simp at ht⟩)
    (by kernel_rfl)
end Go.VM
namespace Go.Proofs.YtfbecfnagidioaaDoor
theorem termAlikes_holds : Rows.TermAlikesCardSaid := Go.VM.termAlikes_card
end Go.Proofs.YtfbecfnagidioaaDoor
