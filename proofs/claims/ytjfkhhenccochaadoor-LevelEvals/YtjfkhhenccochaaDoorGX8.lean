/- Part of the proof: LA2. -/
import Derived.Test.YtjfkhhenccochaaDoorGX7
namespace Go.VM
open Go.Proofs Go
set_option maxRecDepth 100000
set_option linter.unusedVariables false
set_option linter.unusedSimpArgs false
theorem EvalR_eq {c : Int} {n : Nat} {V P0 : Nat → Int} {m : Nat} {N : Nat → Int} {r r' : A} (h : EvalR c n V P0 m N r) (h' : EvalR c n V P0 m N r') : ∃ x e : Int, r = .tup [.d (.int .i64 x), .d (.int .i64 e)] ∧ r' = .tup [.d (.int .i64 x), .d (.int .i64 e)] := by
  obtain ⟨x, e, rfl, h1, h2⟩ := h
  obtain ⟨x', e', rfl, h1', h2'⟩ := h'
  by_cases v : ValidP c n V P0
  · cases hy : evalF V P0 m N c n with
    | none =>
      obtain ⟨rfl, rfl⟩ := (h2 v).1 hy
      obtain ⟨rfl, rfl⟩ := (h2' v).1 hy
      exact ⟨_, _, rfl, rfl⟩
    | some y =>
      obtain ⟨rfl, rfl⟩ := (h2 v).2 y hy
      obtain ⟨rfl, rfl⟩ := (h2' v).2 x hy
      exact ⟨_, _, rfl, rfl⟩
  · obtain ⟨rfl, rfl⟩ := h1 v
    obtain ⟨rfl, rfl⟩ := h1' v
    exact ⟨_, _, rfl, rfl⟩
theorem lawEvals (c : Int) (n : Nat) (V P0 : Nat → Int) (m : Nat) (N : Nat → Int) (hn : n < 2 ^ 63) (hm : m < 2 ^ 63) : VFun (P ()) 4 [lv c n V P0, .d (.sl m 1 (nsF .i64 N))] (fun r => r = .d (.bool true)) := by
  refine vfunO (Tf := @T) @tabOk [] 400 Tryd.func4 rfl (fun {_} => by kernel_rfl) rfl (Nat.le_of_ble_eq_true rfl) @fun ⟨_, _, _, _, _, _, _, _, _, _, _, _, _, _, _, _, _, _, _, _, _, _, _, _, _, _, _, _, _, _, _, _, _, _, _, _, _, _, wp, wf⟩ R hR => ?_
  cbv
  try simp only [wp, (show ∀ n : Nat, _ = n from fun n => wf.2.2.2.2.2.2.2.2.2.2.2.2.2.1 (Int.ofNat n)), getL, takeL, dropL, TK.isAgg, reduceIte]
  replace hR := fun H => hR _ H _ (.d (.bool true)) rfl
  (refine CallW.frz @fun ⟨_, _, _, _, _, _, _, _, _, _, _, _, _, _, _, _, _, _, _, _, _, _, _, _, _, _, _, _, _, _, _, _, _, _, _, _, _, _, wpz, wfz⟩ => ?_; cbv; try simp only [wpz, wp, (show ∀ n : Nat, _ = n from fun n => wfz.2.2.2.2.2.2.2.2.2.2.2.2.2.1 (Int.ofNat n)), getL, takeL, dropL, TK.isAgg, reduceIte])
  repeat' first | trivial | with_reducible refine And.intro ?_ ?_ | intro c9
  refine wide1 (n := n) (by omega) (by ((try simp only [wf, wfz, nc, nc', Int.toNat_natCast, bsz, ByteArray.size_append, List.length_cons, List.length_nil] at *); (try simp (disch := omega) only [w64, w32, wu8] at *)); rfl) ?_
  intro b hb
  cases b <;> (cbv; try simp only [wp, (show ∀ n : Nat, _ = n from fun n => wf.2.2.2.2.2.2.2.2.2.2.2.2.2.1 (Int.ofNat n)), getL, takeL, dropL, TK.isAgg, reduceIte])
  · obtain w1 := hb rfl
    clear hb
    repeat' first | trivial | with_reducible refine And.intro ?_ ?_ | intro c9
    all_goals (refine Later.mk ?_; cbv; try simp only [wp, (show ∀ n : Nat, _ = n from fun n => wf.2.2.2.2.2.2.2.2.2.2.2.2.2.1 (Int.ofNat n)), getL, takeL, dropL, TK.isAgg, reduceIte])
    all_goals first
      | exact hR _
      | skip
    have w2 : m ≤ 2000 := (by (try simp only [wf, nc, nc', Int.toNat_natCast, bsz, ByteArray.size_append, List.length_cons, List.length_nil] at *); (try simp (disch := omega) only [w64, w32, wu8] at *); omega)
    refine (Eval c n V P0 m N (by omega) (by omega)).call ?_
    intro r hr
    refine (EvalR_eq hr hr).elim fun x h => h.elim fun e h => ?_
    obtain ⟨rfl, _⟩ := h
    (cbv; try simp only [wp, (show ∀ n : Nat, _ = n from fun n => wf.2.2.2.2.2.2.2.2.2.2.2.2.2.1 (Int.ofNat n)), getL, takeL, dropL, TK.isAgg, reduceIte])
    refine (REval c n V P0 m N (by omega) (by omega)).call ?_
    intro r' hr'
    obtain ⟨x', e', h1, rfl⟩ := EvalR_eq hr hr'
    cases h1
    clear hr hr'
    (cbv; try simp only [wp, (show ∀ n : Nat, _ = n from fun n => wf.2.2.2.2.2.2.2.2.2.2.2.2.2.1 (Int.ofNat n)), getL, takeL, dropL, TK.isAgg, reduceIte])
    repeat' first
      | trivial
      | with_reducible refine And.intro ?_ ?_
      | exact hR _
      | (intro c9; first | exact absurd rfl c9 | skip)
      | (refine awake.call ?_
         rintro _ rfl
         (cbv; try simp only [wp, (show ∀ n : Nat, _ = n from fun n => wf.2.2.2.2.2.2.2.2.2.2.2.2.2.1 (Int.ofNat n)), getL, takeL, dropL, TK.isAgg, reduceIte]))
      | (refine Later.mk ?_; cbv; try simp only [wp, (show ∀ n : Nat, _ = n from fun n => wf.2.2.2.2.2.2.2.2.2.2.2.2.2.1 (Int.ofNat n)), getL, takeL, dropL, TK.isAgg, reduceIte])
    all_goals trace_state
  · repeat' first | trivial | with_reducible refine And.intro ?_ ?_ | intro c9
    all_goals (refine Later.mk ?_; cbv; try simp only [wp, (show ∀ n : Nat, _ = n from fun n => wf.2.2.2.2.2.2.2.2.2.2.2.2.2.1 (Int.ofNat n)), getL, takeL, dropL, TK.isAgg, reduceIte])
    all_goals exact hR _
end Go.VM
