/- Part of the proof: X39. -/
import Derived.Test.YtcpdnjehmnbheaaDoorX31
import Derived.Test.YtcpdnjehmnbheaaDoorX26
import Derived.Test.YtcpdnjehmnbheaaDoorX34
import Derived.Test.YtcpdnjehmnbheaaDoorX38
namespace Go.VM
open Go.Proofs Go
set_option maxRecDepth 100000
set_option linter.unusedVariables false
set_option linter.unusedSimpArgs false

/-- a function of data that returns new objects of its own, over whatever heap -/
theorem VCalls.fresh [Glb] {P : Program} {K : FuncId} {ds : List D} {R1 : A → AHeap → Prop} (h : VCalls P K (ds.map .d) [] R1) (H : AHeap) {R : A → AHeap → Prop}
    (hr : ∀ r1 H1', R1 r1 H1' → Bel H1'.length r1 ∧ (∀ (i : Nat) x, H1'[i]? = some x → BelO H1'.length x) ∧ (∀ [Ops] [Lim], leH H1' H1') ∧ R (ren (fun i => H.length + i) r1) (H ++ H1'.map (renO (fun i => H.length + i)))) : VCalls P K (ds.map .d) H R := by
  have e0 : ds.map A.d = ren.renL (fun i => H.length + i) (ds.map .d) := (ren_ds _ ds).symm
  rw [e0]
  refine h.frame H (fun i => H.length + i) (fun i j _ _ e => by omega) (fun i x hx => by simp at hx) (fun i x hx => by simp at hx) (fun k hk => bel_ds _ ds k hk) fun r1 H1' hR => ?_
  obtain ⟨h1, h2, h3, h4⟩ := hr r1 H1' hR
  refine Ops.exists_one.elim fun inst => ?_
  let lim : Lim := ⟨fun _ _ => True⟩
  refine ⟨_, H1', _, .keep _ h1, Nat.zero_le _, fun i _ _ => rfl, h3, h2, by simp, fun i x hx => ?_, fun o ho _ => ?_, h4⟩
  · show (H ++ _)[H.length + i]? = _
    rw [List.getElem?_append_right (Nat.le_add_right _ _)]
    simp [hx]
  · rw [List.getElem?_append_left ho]

theorem f45w (m : Nat) (g : Nat → Nat → D) (hm : m < 2 ^ 30) : VCalls (P ()) 45 [.d (.sl m 3 g)] [] (fun r H' => (m = 0 ∧ r = .nils ∧ H' = []) ∨ ∃ n' g', n' = m ∧ (∀ i j, i < m → g' i j = g i j) ∧ r = .ref 0 0 n' 3 ∧ H' = [.arr n' 3 g' 0]) := by
  refine VCalls_of_W (Tf := @T) @tabOk Tryd.func45 rfl (Nat.le_of_ble_eq_true rfl) @fun ⟨_, _, _, _, _, _, _, _, _, _, _, _, _, _, _, _, _, _, _, _, _, _, _, _, _, _, _, _, _, _, _, _, _, _, _, _, _, _, wp, wf⟩ n R hn hR => ?_
  cbv
  try simp only [wp, getL, takeL, dropL, TK.isAgg, reduceIte]
  repeat' first | with_reducible refine And.intro ?_ ?_ | intro c9
  all_goals first
    | exact (by (try simp only [wf, nc, nc', Int.toNat_natCast] at *); (try simp (disch := omega) only [w64, w32, wu8] at *); omega)
    | trivial
    | exact hR _ _ (.inl ⟨(by (try simp only [wf, nc, nc', Int.toNat_natCast] at *); (try simp (disch := omega) only [w64, w32, wu8] at *); omega), rfl, rfl⟩)
    | (refine hR _ _ (.inr ⟨_, _, ?_, ?_, rfl, rfl⟩)
       · ((try simp only [wf, nc, nc', Int.toNat_natCast] at *); (try simp (disch := omega) only [w64, w32, wu8] at *))
         omega
       · intro i j hi
         ((try simp only [wf, nc, nc', Int.toNat_natCast] at *); (try simp (disch := omega) only [w64, w32, wu8] at *))
         simp [appF])

/-- slices.Clone -/
theorem f45 {n : Nat} {g : Nat → Nat → D} {H : AHeap} {R : A → AHeap → Prop} (hn : n < 2 ^ 30) (h0 : n = 0 → R .nils H)
    (hR : ∀ n' g', n' = n → (∀ i j, i < n → g' i j = g i j) → R (.ref H.length 0 n' 3) (H ++ [.arr n' 3 g' 0])) : CallW P 45 [.d (.sl n 3 g)] H R := by
  refine CallW.of (VCalls.fresh (ds := [.sl n 3 g]) (f45w n g hn) H (R := R) ?_) fun _ _ h => h
  rintro r H' (⟨rfl, rfl, rfl⟩ | ⟨n', g', h1, h2, rfl, rfl⟩)
  · exact ⟨.nils, fun i x hx => by simp at hx, trivial, by simpa [ren] using h0 rfl⟩
  · refine ⟨.ref _ _ _ _ (by simp), fun i x hx => ?_, ⟨⟨g', 0, rfl, Nat.le_refl _, Nat.zero_le _, fun i j _ _ => .refl _⟩, trivial⟩, hR n' g' h1 h2⟩
    have hi := (List.getElem?_eq_some_iff.1 hx).1
    obtain rfl : i = 0 := by simpa using hi
    simp at hx
    subst hx
    trivial
end Go.VM
