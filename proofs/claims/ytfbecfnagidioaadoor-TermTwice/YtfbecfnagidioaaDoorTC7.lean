/- Proved: filling a term with a list, and the result with another one, is filling it with the first list, filled with the second one, followed by the second one (T2, P3.8; at most 100 nodes each, 6 terms a list, variables up to a million), where the arguments are together of bulk at most 1048576. Conditions: none beyond those of the given card (the Upto form). -/
import Derived.Test.YtfbecfnagidioaaDoorCards
import Derived.Test.YtfbecfnagidioaaDoorTie
import Derived.Test.YtfbecfnagidioaaDoorGX7
import Derived.Test.YtfbecfnagidioaaDoorGX20
namespace Go.VM
open Go.Proofs Go Go.ChangeShapes Go.WideShapes Go.ChangeAt Go.RowKit
open Go.Proofs.YtfbecfnagidioaaDoor
set_option maxRecDepth 100000
set_option linter.unusedVariables false

theorem bulkR {H : Type} : Bulk (H := H) Rows.uptoBulk Rows.uptoBulkAll :=
  ⟨fun d => by
    cases d with
    | lit l => cases l <;> simp [Rows.uptoBulk]
    | _ => simp [Rows.uptoBulk], by simp [Rows.uptoBulkAll], fun d r => by simp [Rows.uptoBulkAll], fun l => by simp [Rows.uptoBulk], fun l r => by simp only [Rows.uptoBulk]; omega⟩
theorem wit_termTwice (os : Os) {H : Type} (enc : TypeId × Value → H) :
    (Rows.OpenSpec.upto Rows.termTwiceSpec).preRow enc Tryd.prog Tryd.f8 [] false laidL ((laidWorld os).forCall (fun _ _ => 0) ⟨#[], #[Value.agg #[.int .i64 0, .int .i64 0, .string ⟨#[]⟩, .slice none 0 0, .slice none 0 0], Value.agg #[.slice none 0 0, .slice none 0 0]], []⟩).memory #[Value.agg #[.int .i64 0, .int .i64 0, .string ⟨#[]⟩, .slice none 0 0, .slice none 0 0], Value.agg #[.slice none 0 0, .slice none 0 0]] := by
  have hw : (DataW.whole enc Tryd.prog ((laidWorld os).forCall (fun _ _ => 0) ⟨#[], #[Value.agg #[.int .i64 0, .int .i64 0, .string ⟨#[]⟩, .slice none 0 0, .slice none 0 0], Value.agg #[.slice none 0 0, .slice none 0 0]], []⟩).memory Tryd.f8.params.toList (Rows.OpenSpec.upto Rows.termTwiceSpec).vars false #[Value.agg #[.int .i64 0, .int .i64 0, .string ⟨#[]⟩, .slice none 0 0, .slice none 0 0], Value.agg #[.slice none 0 0, .slice none 0 0]].toList 8).map (fun x => (x.1, x.2.1)) =
      some ([.agg [.lit (.int .i64 0), .lit (.int .i64 0), .lit (.string []), .nil, .nil], .agg [.nil, .nil]], []) := by kernel_rfl
  obtain ⟨⟨x1, x2, x3⟩, hx, hx1⟩ := Option.map_eq_some_iff.1 hw
  simp only [Prod.mk.injEq] at hx1
  obtain ⟨rfl, rfl⟩ := hx1
  exact OpenSpec.preRow_of_cond 8 hx (by kernel_rfl) (fun k hk => by cases hk; kernel_rfl) (by kernel_rfl) (laid_met os _)

theorem termTwice_lifted (os : Os) (started : os.Started) (H : Type) (enc : TypeId × Value → H) (F : Stop.Interp) :
    ReturnsInHanded {} Tryd.checked os 8 .any ((Rows.OpenSpec.upto Rows.termTwiceSpec).preRow enc Tryd.prog Tryd.f8 [] false laidL) (((Rows.OpenSpec.upto Rows.termTwiceSpec).at F).post enc Tryd.prog Tryd.f8 false true false false) := by
  refine law_lifted3 (kc := Rows.uptoSmall) (C := Tryd.checked) (fn := Tryd.f8) (tb := 4) H enc F own started (by kernel_rfl) Tryd.func8 rfl (by kernel_rfl) Tryd.underlying4 ?_ laidOut (by decide +kernel)
    (wit_of (C := Tryd.checked) (laidWorld os) #[Value.agg #[.int .i64 0, .int .i64 0, .string ⟨#[]⟩, .slice none 0 0, .slice none 0 0], Value.agg #[.slice none 0 0, .slice none 0 0]] (World.laidAll_os _ _ _) (laid_shaped os _) (by kernel_rfl) (wit_termTwice os enc)) (fun W h _ => glob_of W h) ?_
  · intro ds hd
    have hd : ds.length = 2 := hd
    match ds, hd with
    | [d0, d1], _ => rfl
  · intro W base args ds p hval hA hkc
    have hA : DataW.TrodAll enc Tryd.prog W 0 (fun _ => true) true Tryd.f8.params.toList args.toList ds p := hA
    have hval : ∀ (j : Nat) t v, Tryd.f8.params[j]? = some t → args[j]? = some v → Value.okWide Tryd.prog W .any base t v := hval
    rw [Tryd.params8] at hA hval
    obtain ⟨vs, hvs⟩ : ∃ vs, args = ⟨vs⟩ := ⟨args.toList, rfl⟩
    subst hvs
    obtain ⟨v0, vs0, d0, ds0, p0, q0, hv0, rfl, rfl, hd0, hA0⟩ := trodAll_cons hA
    try dsimp only at hv0
    subst hv0
    obtain ⟨v1, vs1, d1, ds1, p1, q1, hv1, rfl, rfl, hd1, hA1⟩ := trodAll_cons hA0
    try dsimp only at hv1
    subst hv1
    obtain ⟨rfl, rfl, rfl⟩ := trodAll_nil hA1
    obtain ⟨t0, hr0⟩ := open_term (hval 0 25 v0 rfl rfl) hd0
    obtain ⟨l1, m1, GL1, GM1, L1, M1, hl1, hm1, hL1, hM1, hS1, hr1⟩ := open_lists bulkR (hval 1 42 v1 rfl rfl) hd1
    have hk1 : Rows.uptoBulkAll [d0, d1] ≤ 1048576 := of_decide_eq_true hkc
    simp only [Rows.uptoBulkAll] at hk1
    refine ⟨[tm t0, .agg [.d (.sl l1 5 GL1), .d (.sl m1 5 GM1)]], lawTermTwice _ _ _ _ _ _ _ hl1 hm1 hL1 hM1 (fun i hi => by have := hS1 i hi; omega), rfl, fun k hk => ?_⟩
    match k, hk with
    | 0, _ => exact hr0 _ _
    | 1, _ => exact hr1 _ _

theorem termTwice_row : Rows.TermTwiceUptoSaid :=
  OpenClaim.holds_of_cond 8 Tryd.f8 rfl rfl rfl rfl rfl rfl rfl ⟨rfl, rfl, rfl, rfl, rfl⟩ rfl rfl rfl rfl rfl (by kernel_rfl) Tryd.func8 (by kernel_rfl)
    (of_decide_eq_true (by kernel_rfl)) (by unfold Func.isWrapper; rw [if_neg (of_decide_eq_false (by kernel_rfl))]; exact ⟨rfl, rfl⟩)
    (fun os started H enc _ F0 => by rw [OpenClaim.pre_eq_preRow]; exact termTwice_lifted os started H enc F0)

theorem termTwice_card : Rows.TermTwiceUptoCardSaid :=
  Claim7.holds_tied_plain_at .later [] [.data, .data, .data] true (true, "4f2f8365065d56ad86a573aa3f3df150c6308306ba4d869141c3166ccc1655fa") false
    termTwice_row (fun _ h => by cases h) (by kernel_rfl) (fun _ h => by cases h) termTwiceUpto_row_tie rfl ⟨rfl, rfl⟩ (by kernel_rfl) rfl
    (fun f fn hf hfn => by
      obtain rfl : f = 8 := Option.some.inj ((show Tryd.prog.funcNamed "tenet/tenetlaw03.TermTwice" = some 8 by kernel_rfl).symm.trans hf) |>.symm
      obtain rfl : fn = Tryd.f8 := (Option.some.inj (Tryd.func8.symm.trans hfn)).symm
      exact ⟨by kernel_rfl, fun j t ht => by
        rw [Tryd.params8] at ht
        rcases j with _ | _ | j
        · obtain rfl : 25 = t := by simpa using ht
          exact (show Tryd.prog.wantsStandIn 25 = false by kernel_rfl)
        · obtain rfl : 42 = t := by simpa using ht
          exact (show Tryd.prog.wantsStandIn 42 = false by kernel_rfl)
        · simp at ht⟩)
    (by kernel_rfl)
end Go.VM
namespace Go.Proofs.YtfbecfnagidioaaDoor
theorem termTwice_holds : Rows.TermTwiceUptoCardSaid := Go.VM.termTwice_card
end Go.Proofs.YtfbecfnagidioaaDoor
