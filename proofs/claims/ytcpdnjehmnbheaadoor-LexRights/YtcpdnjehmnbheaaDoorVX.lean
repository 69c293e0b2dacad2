/- A nil slice, seen as an own slice of no elements. -/
import Derived.Test.YtcpdnjehmnbheaaDoorVS
set_option linter.unusedSimpArgs false
set_option linter.unusedVariables false
set_option linter.unusedSectionVars false
namespace Go.VM
open Go.RowKit (Below)
variable [Glb]

theorem VW_ghost [Lim] {P : Program} {n : Nat} {c : Code} {Q : Ex → St → Prop} {σ : St} (d sz : Nat) (g : Nat → Nat → D) (hd : getL σ.tm d .undef = .nils)
    (h : VW P n c Q ⟨setL σ.tm d (.ref (lenL σ.hp) 0 0 sz), σ.hp ++ [.arr 0 sz g 0]⟩) : VW P n c Q σ := by
  refine Ops.exists_one.elim fun inst => ?_
  intro E ι I a w hn hi
  have gg := Goes.new (w := w) (w' := w) (fun _ _ => rfl) hi.rel.imm ι σ.hp (.arr 0 sz g 0) none
  refine h E (updι ι σ.hp.length none) I a w hn ⟨hi.defers, ⟨?_, fun t ht => ?_⟩, ?_, hi.keep.goes gg (.refl _ _)⟩
  · rw [setL_eq]
    simpa using hi.tm.1
  · rw [setL_eq] at ht ⊢
    simp only [List.length_set] at ht
    by_cases e : d = t
    · subst e
      have hv := hi.tm.2 d ht
      rw [getL_eq] at hd
      rw [hd] at hv
      generalize a.tmps.getD d undef = v at hv
      cases hv with | nils =>
      have : (σ.tm.set d (.ref (lenL σ.hp) 0 0 sz)).getD d .undef = .ref (lenL σ.hp) 0 0 sz := by simp [List.getD_eq_getElem?_getD, List.getElem?_set, ht]
      rw [this, lenL_length]
      refine .ref _ _ _ _ _ (by simp) (fun n' sz'' get'' fz' h _ => ?_) ⟨_, _, rfl⟩
      rw [List.getElem?_append_right (Nat.le_refl _)] at h
      simp at h
      obtain ⟨rfl, rfl, rfl, rfl⟩ := h
      exact ⟨by omega, fun _ => .inr (.inl ⟨by simp [updι], rfl, rfl⟩)⟩
    · have : (σ.tm.set d (.ref (lenL σ.hp) 0 0 sz)).getD t .undef = σ.tm.getD t .undef := by simp [List.getD_eq_getElem?_getD, List.getElem?_set_ne e]
      rw [this]
      exact (hi.tm.2 t ht).goes gg
  · refine hi.rel.new (Nat.le_refl _) (fun _ _ => rfl) _ _ (fun b' e => by cases e) ?_
    exact ⟨Nat.zero_le _, .inr ⟨by simp [updι], rfl⟩⟩

theorem loopGhost {Pf : Unit → Program} {n : Nat} {c : Code} {Q : Ex → St → Prop} {tm : List A} {hp : AHeap} (d sz : Nat) (hd : getL tm d .undef = .nils)
    (h : LoopVW Pf n c Q ⟨setL tm d (.ref (lenL hp) 0 0 sz), hp ++ [.arr 0 sz (fun _ _ => .nilp) 0]⟩) : LoopVW Pf n c Q ⟨tm, hp⟩ := by
  obtain ⟨h⟩ := h
  exact ⟨fun lim => VW_ghost d sz _ hd (h lim)⟩

end Go.VM
