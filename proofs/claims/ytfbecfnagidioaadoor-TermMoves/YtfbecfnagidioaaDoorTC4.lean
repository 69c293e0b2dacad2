/- Proved: a term shifted by 0 is the term; shifted by a, and then by b, it is shifted by a + b; and back again it is the term (T2, P3.8; terms of at most 400 nodes, variables up to a million; a and b at most 65,535). Conditions: none beyond those of the given card. -/
import Derived.Test.YtfbecfnagidioaaDoorCards
import Derived.Test.YtfbecfnagidioaaDoorTie
import Derived.Test.YtfbecfnagidioaaDoorGX7
import Derived.Test.YtfbecfnagidioaaDoorGX18
namespace Go.VM
open Go.Proofs Go Go.ChangeShapes Go.WideShapes Go.ChangeAt Go.RowKit
open Go.Proofs.YtfbecfnagidioaaDoor
set_option maxRecDepth 100000
set_option linter.unusedVariables false

theorem wit_termMoves (os : Os) {H : Type} (enc : TypeId × Value → H) :
    (OpenSpec.ofChange Rows.termMovesSpec).preRow enc Tryd.prog Tryd.f6 [] false laidL ((laidWorld os).forCall (fun _ _ => 0) ⟨#[], #[Value.agg #[.int .i64 0, .int .i64 0, .string ⟨#[]⟩, .slice none 0 0, .slice none 0 0], Value.int .u16 0, Value.int .u16 0, Value.int .u8 0], []⟩).memory #[Value.agg #[.int .i64 0, .int .i64 0, .string ⟨#[]⟩, .slice none 0 0, .slice none 0 0], Value.int .u16 0, Value.int .u16 0, Value.int .u8 0] := by
  have hw : (DataW.whole enc Tryd.prog ((laidWorld os).forCall (fun _ _ => 0) ⟨#[], #[Value.agg #[.int .i64 0, .int .i64 0, .string ⟨#[]⟩, .slice none 0 0, .slice none 0 0], Value.int .u16 0, Value.int .u16 0, Value.int .u8 0], []⟩).memory Tryd.f6.params.toList (OpenSpec.ofChange Rows.termMovesSpec).vars false #[Value.agg #[.int .i64 0, .int .i64 0, .string ⟨#[]⟩, .slice none 0 0, .slice none 0 0], Value.int .u16 0, Value.int .u16 0, Value.int .u8 0].toList 8).map (fun x => (x.1, x.2.1)) =
      some ([.agg [.lit (.int .i64 0), .lit (.int .i64 0), .lit (.string []), .nil, .nil], .lit (.int .u16 0), .lit (.int .u16 0), .lit (.int .u8 0)], []) := by kernel_rfl
  obtain ⟨⟨x1, x2, x3⟩, hx, hx1⟩ := Option.map_eq_some_iff.1 hw
  simp only [Prod.mk.injEq] at hx1
  obtain ⟨rfl, rfl⟩ := hx1
  exact OpenSpec.preRow_of_cond 8 hx (by kernel_rfl) (fun k hk => by cases hk) (by kernel_rfl) (laid_met os _)

theorem termMoves_lifted (os : Os) (started : os.Started) (H : Type) (enc : TypeId × Value → H) (F : Stop.Interp) :
    ReturnsInHanded {} Tryd.checked os 6 .any ((OpenSpec.ofChange Rows.termMovesSpec).preRow enc Tryd.prog Tryd.f6 [] false laidL) (((OpenSpec.ofChange Rows.termMovesSpec).at F).post enc Tryd.prog Tryd.f6 false true false false) := by
  refine law_lifted2 (C := Tryd.checked) (fn := Tryd.f6) (tb := 4) H enc F own started (by kernel_rfl) Tryd.func6 rfl (by kernel_rfl) Tryd.underlying4 ?_ laidOut (by decide +kernel)
    (wit_of (C := Tryd.checked) (laidWorld os) #[Value.agg #[.int .i64 0, .int .i64 0, .string ⟨#[]⟩, .slice none 0 0, .slice none 0 0], Value.int .u16 0, Value.int .u16 0, Value.int .u8 0] (World.laidAll_os _ _ _) (laid_shaped os _) (by kernel_rfl) (wit_termMoves os enc)) (fun W h _ => glob_of W h) ?_
  · intro ds hd
    have hd : ds.length = 4 := hd
    match ds, hd with
    | [d0, d1, d2, d3], _ => rfl
  · intro W base args ds p hval hA
    have hA : DataW.TrodAll enc Tryd.prog W 0 (fun _ => true) true Tryd.f6.params.toList args.toList ds p := hA
    have hval : ∀ (j : Nat) t v, Tryd.f6.params[j]? = some t → args[j]? = some v → Value.okWide Tryd.prog W .any base t v := hval
    rw [Tryd.params6] at hA hval
    obtain ⟨vs, hvs⟩ : ∃ vs, args = ⟨vs⟩ := ⟨args.toList, rfl⟩
    subst hvs
    obtain ⟨v0, vs0, d0, ds0, p0, q0, hv0, rfl, rfl, hd0, hA0⟩ := trodAll_cons hA
    try dsimp only at hv0
    subst hv0
    obtain ⟨v1, vs1, d1, ds1, p1, q1, hv1, rfl, rfl, hd1, hA1⟩ := trodAll_cons hA0
    try dsimp only at hv1
    subst hv1
    obtain ⟨v2, vs2, d2, ds2, p2, q2, hv2, rfl, rfl, hd2, hA2⟩ := trodAll_cons hA1
    try dsimp only at hv2
    subst hv2
    obtain ⟨v3, vs3, d3, ds3, p3, q3, hv3, rfl, rfl, hd3, hA3⟩ := trodAll_cons hA2
    try dsimp only at hv3
    subst hv3
    obtain ⟨rfl, rfl, rfl⟩ := trodAll_nil hA3
    obtain ⟨t0, hr0⟩ := open_term (hval 0 25 v0 rfl rfl) hd0
    obtain ⟨s1, rfl, rfl, rfl, hs1⟩ := open_int Tryd.underlying36 (hval 1 36 v1 rfl rfl) hd1
    have hs1 : 0 ≤ s1 ∧ s1 ≤ 65535 := by simpa [Lit.wf, IntKind.min, IntKind.max, IntKind.bits, IntKind.signed] using hs1
    obtain ⟨s2, rfl, rfl, rfl, hs2⟩ := open_int Tryd.underlying36 (hval 2 36 v2 rfl rfl) hd2
    have hs2 : 0 ≤ s2 ∧ s2 ≤ 65535 := by simpa [Lit.wf, IntKind.min, IntKind.max, IntKind.bits, IntKind.signed] using hs2
    obtain ⟨s3, rfl, rfl, rfl, hs3⟩ := open_int Tryd.underlying5 (hval 3 5 v3 rfl rfl) hd3
    have hs3 : 0 ≤ s3 ∧ s3 ≤ 255 := by simpa [Lit.wf, IntKind.min, IntKind.max, IntKind.bits, IntKind.signed] using hs3
    refine ⟨[tm t0, .d (.int .u16 s1), .d (.int .u16 s2), .d (.int .u8 s3)], lawTermMoves _ _ _ _ hs1 hs2 hs3, rfl, fun k hk => ?_⟩
    match k, hk with
    | 0, _ => exact hr0 _ _
    | 1, _ => exact .d _ _ (.int .u16 s1)
    | 2, _ => exact .d _ _ (.int .u16 s2)
    | 3, _ => exact .d _ _ (.int .u8 s3)

theorem termMoves_row : Rows.TermMovesSaid :=
  OpenClaim.holds_of_cond 6 Tryd.f6 rfl rfl rfl rfl rfl rfl rfl ⟨rfl, rfl, rfl, rfl, rfl⟩ rfl rfl rfl rfl rfl (by kernel_rfl) Tryd.func6 (by kernel_rfl)
    (of_decide_eq_true (by kernel_rfl)) (by unfold Func.isWrapper; rw [if_neg (of_decide_eq_false (by kernel_rfl))]; exact ⟨rfl, rfl⟩)
    (fun os started H enc _ F0 => by rw [OpenClaim.pre_eq_preRow]; exact termMoves_lifted os started H enc F0)

theorem termMoves_card : Rows.TermMovesCardSaid :=
  Claim7.holds_tied_plain_at .later [] [.data, .data, .data] true (true, "4f2f8365065d56ad86a573aa3f3df150c6308306ba4d869141c3166ccc1655fa") false
    termMoves_row (fun _ h => by cases h) (by kernel_rfl) (fun _ h => by cases h) termMoves_row_tie rfl ⟨rfl, rfl⟩ (by kernel_rfl) rfl
    (fun f fn hf hfn => by
      obtain rfl : f = 6 := Option.some.inj ((show Tryd.prog.funcNamed "tenet/tenetlaw03.TermMoves" = some 6 by kernel_rfl).symm.trans hf) |>.symm
      obtain rfl : fn = Tryd.f6 := (Option.some.inj (Tryd.func6.symm.trans hfn)).symm
      exact ⟨by kernel_rfl, fun j t ht => by
        rw [Tryd.params6] at ht
        rcases j with _ | _ | _ | _ | j
        · obtain rfl : 25 = t := by simpa using ht
          exact (show Tryd.prog.wantsStandIn 25 = false by kernel_rfl)
        · obtain rfl : 36 = t := by simpa using ht
          exact (show Tryd.prog.wantsStandIn 36 = false by kernel_rfl)
        · obtain rfl : 36 = t := by simpa using ht
          exact (show Tryd.prog.wantsStandIn 36 = false by kernel_rfl)
        · obtain rfl : 5 = t := by simpa using ht
          exact (show Tryd.prog.wantsStandIn 5 = false by kernel_rfl)
        · simp at ht⟩)
    (by kernel_rfl)
end Go.VM
namespace Go.Proofs.YtfbecfnagidioaaDoor
theorem termMoves_holds : Rows.TermMovesCardSaid := Go.VM.termMoves_card
end Go.Proofs.YtfbecfnagidioaaDoor
