/- Contracts of the functions that the law reaches: part of the proof (X8). -/
import Derived.Test.YtcpdnjehmnbheaaDoorX7
import Derived.Test.YtcpdnjehmnbheaaDoorLay66
namespace Go.VM
open Go.Proofs Go
set_option maxRecDepth 100000
set_option linter.unusedVariables false
set_option linter.unusedSimpArgs false

theorem vfun_strs {Q : Program} {K : FuncId} {s : ByteArray} {L : List ByteArray} {t : TypeId}
    (h : ∀ w : World, (∀ b k v, Glb.G b k v → w.cell? ⟨b, k, none⟩ = some v) → Calls Q K #[.string s] w fun e w' => e = .returned (.slice (some ⟨w.heap.size, 0, none⟩) L.length L.length) ∧ w' = w.alloc (.cells (L.map Value.string).toArray t)) :
    VFun Q K [.d (.str s)] (fun r => r = .d (.sl L.length 1 (strsG (nthS L)))) := by
  refine Ops.exists_one.elim fun inst => ?_
  intro H lim B ι I w vs hrel hargs
  obtain ⟨hl, hk⟩ := hargs
  match vs, hl with
  | [a], _ =>
    have h0 := hk 0 (by simp)
    simp only [List.getD_cons_zero] at h0
    cases h0 with | d _ _ h0 =>
    cases h0
    refine (h w fun b k v hg => (hrel.glob b k v hg).2).mono ?_
    rintro e w' ⟨rfl, rfl⟩
    have hsz : w.heap.size < (w.alloc (.cells (L.map Value.string).toArray t)).heap.size := (Array.getElem?_eq_some_iff.1 (heap_alloc_new w (.cells (L.map Value.string).toArray t))).1
    obtain ⟨g1, g2⟩ := hrel.grow (w' := w.alloc (.cells (L.map Value.string).toArray t)) (J := fun b k => I b k ∨ b = w.heap.size) (Below.new w _ (Nat.le_refl _)) (fun b k h => .inl h) (fun b k hb h => h.resolve_right (by omega)) (fun b k h => by
      rcases h with h | h
      · have := hrel.imm b k h; omega
      · omega)
    refine ⟨_, _, H, ι, _, rfl, ⟨rfl, rfl⟩, g1, .d _ _ ?_, g2⟩
    refine .sl _ 0 _ _ _ _ (fun i j => .string (nthS L i)) (Nat.le_refl _) (fun i j hi hj => ⟨.inr rfl, ?_⟩) (fun i j hi hj => .str _)
    have hj0 : j = 0 := by omega
    subst hj0
    unfold World.cell?
    simp only [heap_alloc_new]
    simp [nthS, List.getD_eq_getElem?_getD, List.getElem?_eq_getElem hi]

theorem nth_all {L : List ByteArray} (n : Nat) (h : L.length = n) : (.sl L.length 1 (strsG (nthS L)) : D) = .sl n 1 (strsG (nthS L)) := by rw [h]

theorem f66 (s : ByteArray) (L : List ByteArray) (hL : (Lib.fields s.data.toList).map (fun l => (⟨l.toArray⟩ : ByteArray)) = L) (hs : s.size < 4294967281) (ha : ∀ (j : Nat) b, s.data.toList[j]? = some b → b.toNat < 128) :
    VFun (P ()) 66 [.d (.str s)] (fun r => r = .d (.sl L.length 1 (strsG (nthS L)))) := by
  refine vfun_strs (t := 9) fun w hg => ?_
  have := Any.strings_Fields_core Tryd.lays157 (by kernel_rfl) s w hs ha (fun c hc => hg 1 c _ ⟨rfl, hc, rfl⟩)
  refine this.mono ?_
  rintro e w' ⟨rfl, rfl⟩
  subst hL
  refine ⟨by simp, ?_⟩
  rw [List.map_map]
  rfl
end Go.VM
