/- Slicing, building, making. -/
import Derived.Test.YtcpdnjehmnbheaaDoorVH
set_option linter.unusedSimpArgs false
set_option linter.unusedVariables false
set_option linter.unusedSectionVars false
namespace Go.VM
open Ops
variable [Ops] [Glb] [Lim]
open Go.RowKit (Below)

variable {P : Program} {T : Tab} {B : Nat} {ι : Nat → Option Nat} {I : Nat → Nat → Prop} {w : World} {H : AHeap}

/-! ### Slicing -/
inductive OptRep (w : World) (I : Nat → Nat → Prop) (ι : Nat → Option Nat) (H : AHeap) : Option Value → Option A → Prop
  | none : OptRep w I ι H .none .none
  | some (v : Value) (a : A) (h : RepA w I ι H v a) : OptRep w I ι H (.some v) (.some a)

def BndLo (lo : Option Value) (l : Int) : Prop := (lo = none ∧ l = 0) ∨ ∃ k, lo = some (.int k l)
def BndHi (hi : Option Value) (n h : Int) : Prop := (hi = none ∧ h = n) ∨ ∃ k, hi = some (.int k h)

theorem run_sliceBounds {b : Bool} {len cap : Nat} {lo hi : Option Value} {l h : Int} (hlo : BndLo lo l) (hhi : BndHi hi len h) (h0 : 0 ≤ l) (h1 : l ≤ h) (h2 : h ≤ cap) :
    (Instr.sliceBounds b len cap lo hi none).run P w = .ok (l.toNat, h.toNat, cap) w := by
  have hh : (0 : Int) ≤ h ∧ h ≤ (cap : Int) := ⟨by omega, h2⟩
  have hl : (0 : Int) ≤ l ∧ l ≤ (h.toNat : Int) := ⟨h0, by omega⟩
  rcases hlo with ⟨rfl, rfl⟩ | ⟨k, rfl⟩ <;> rcases hhi with ⟨rfl, rfl⟩ | ⟨k', rfl⟩
  · simp [Instr.sliceBounds]
  · simp [Instr.sliceBounds, Instr.sliceBound, asIntOf, hh]
  · have hl' : (0 : Int) ≤ l ∧ l ≤ (len : Int) := ⟨h0, h1⟩
    simp [Instr.sliceBounds, Instr.sliceBound, asIntOf, hl']
  · have hm : ¬ max h 0 < l := by omega
    simp [Instr.sliceBounds, Instr.sliceBound, asIntOf, hh, hl, hm]

theorem sliceD_ok (hT : TabOk P T) {t e : Nat} {te : TI} (hu : ∀ w, (underlying t).run P w = .ok (.slice e) w) (hte : T.ti e = some te) {v : Value} {n sz : Nat} {get : Nat → Nat → D} (hv : RepD w I v (.sl n sz get)) (hsz : te.size = sz ∨ n = 0)
    {lo hi : Option Value} {l h : Int} (hlo : BndLo lo l) (hhi : BndHi hi n h) (h0 : 0 ≤ l) (h1 : l ≤ h) (h2 : h ≤ n) :
    ∃ v', (Instr.sliceAt t v lo hi none).run P w = .ok v' w ∧ RepD w I v' (.sl (h.toNat - l.toNat) sz (fun i j => get (l.toNat + i) j)) := by
  have hs := (hT.ti _ _ hte).sizeOf w
  cases hv with
  | sl0 a cap =>
    obtain rfl : l = 0 := by omega
    obtain rfl : h = 0 := by omega
    have := run_sliceBounds (P := P) (w := w) (b := true) (len := 0) (cap := cap) hlo hhi (by omega) (by omega) (by omega)
    refine ⟨_, by simp [Instr.sliceAt, Instr.slice, hu, this, hs]; rfl, ?_⟩
    simp only [Int.toNat_zero, Nat.sub_self]
    exact .sl0 _ _ _ _
  | sl b o _ cap _ _ vals hl hc hr =>
    have := run_sliceBounds (P := P) (w := w) (b := true) (len := n) (cap := cap) hlo hhi h0 h1 (by omega)
    refine ⟨_, by simp [Instr.sliceAt, Instr.slice, hu, this, hs]; rfl, ?_⟩
    by_cases hz : h.toNat - l.toNat = 0
    · rw [hz]; exact .sl0 _ _ _ _
    · have hne : ¬ cap = l.toNat := by omega
      have hszz : te.size = sz := hsz.resolve_right (by omega)
      simp only [hne, if_false, Option.map_some, Addr.add_mid, hszz]
      have hidx : ∀ i j, o + l.toNat * sz + (i * sz + j) = o + ((l.toNat + i) * sz + j) := fun i j => by rw [Nat.add_mul]; omega
      refine .sl b _ _ _ _ _ (fun i j => vals (l.toNat + i) j) (by omega) (fun i j hi hj => ?_) (fun i j hi hj => hr _ _ (by omega) hj)
      rw [hidx]
      exact hc _ _ (by omega) hj

theorem optInt {w : World} {I : Nat → Nat → Prop} {ι : Nat → Option Nat} {H : AHeap} {hi : Option Value} {k : IntKind} {n : Int} (h : OptRep w I ι H hi (some (.d (.int k n)))) : hi = some (.int k n) := by
  cases h with | some v _ h => rw [rep_int h]

theorem wslice_ok (hT : TabOk P T) {t : Nat} {x : A} {lo hi : Option A} {vx : Value} {vlo vhi : Option Value} {Q : A → AHeap → Prop} (r : Rel B ι I w H) (hx : RepA w I ι H vx x) (hlo : OptRep w I ι H vlo lo) (hhi : OptRep w I ι H vhi hi)
    (h : wslice T t x lo hi H Q) : StepsV P B (Instr.sliceAt t vx vlo vhi none) w I ι H Q := by
  unfold wslice at h
  simp only at h
  split at h
  · exact h.elim
  rename_i l hl
  have hbl : BndLo vlo l := by
    split at hl
    · cases hlo; cases hl; exact .inl ⟨rfl, rfl⟩
    · rename_i k n
      cases hl
      exact .inr ⟨k, optInt hlo⟩
    · cases hl
  have hbh : ∀ {k : IntKind} {n : Int} (m : Int), hi = some (.d (.int k n)) → BndHi vhi m n := fun m e => by
    subst e; exact .inr ⟨_, optInt hhi⟩
  have hbn : ∀ m : Int, hi = none → BndHi vhi m m := fun m e => by subst e; cases hhi; exact .inl ⟨rfl, rfl⟩
  have hz : lo = none → l = 0 := fun e => by subst e; simp at hl; exact hl.symm
  split at h
  · -- a string
    rename_i s
    split at h
    · rename_i hti
      obtain ⟨d, hd, hu⟩ := (hT.ti _ _ hti).underlying
      obtain rfl := kindOf_string hd
      obtain rfl := rep_str hx
      split at h
      · obtain ⟨h1, h2, h3⟩ := h
        simp only [leP_eq, lenS_eq, decide_eq_true_eq] at h1 h2
        have := run_sliceBounds (P := P) (w := w) (b := false) (len := s.size) (cap := s.size) hbl (hbn _ rfl) h1 h2 (by omega)
        refine .pure r (v := .string (subS s l (lenS s))) ?_ (.d _ _ (.str _)) h3
        simp [Instr.sliceAt, Instr.slice, hu, this, subS_eq, lenS_eq]
      · rename_i k n
        obtain ⟨h1, h2, h3, h4⟩ := h
        simp only [leP_eq, lenS_eq, decide_eq_true_eq] at h1 h2 h3
        have := run_sliceBounds (P := P) (w := w) (b := false) (len := s.size) (cap := s.size) hbl (hbh _ rfl) h1 h2 (by omega)
        refine .pure r (v := .string (subS s l n)) ?_ (.d _ _ (.str _)) h4
        simp [Instr.sliceAt, Instr.slice, hu, this, subS_eq]
      · exact h.elim
    · exact h.elim
  · -- data
    rename_i n sz get
    split at h
    · rename_i e _ _ _ hti
      obtain ⟨d, hd, hu⟩ := (hT.ti _ _ hti).underlying
      obtain rfl := kindOf_slice hd
      obtain ⟨hs, h⟩ := h
      split at hs
      · rename_i te hte
        simp only [Nat.beq_eq, eqN_eq] at hs
        cases hx with | d _ _ hx =>
        have fin : ∀ {h' : Int} (hb : BndHi vhi n h') (h1 : 0 ≤ l) (h2 : l ≤ h') (h3 : h' ≤ n), Q (.d (.sl (subN (natOf h') (natOf l)) sz (loG lo get l))) H → StepsV P B (Instr.sliceAt t vx vlo vhi none) w I ι H Q := fun {h'} hb h1 h2 h3 hq => by
          obtain ⟨v', g1, g2⟩ := sliceD_ok hT hu hte hx hs hbl hb h1 h2 h3
          refine .pure r g1 (.d _ _ ?_) hq
          have e : loG lo get l = fun i j => get (l.toNat + i) j := by
            clear hq hl hlo
            cases lo with
            | none => obtain rfl := hz rfl; funext i j; simp [loG]
            | some a => funext i j; simp [loG, shG_eq, natOf_eq]
          rw [e]
          simpa [subN_eq, natOf_eq] using g2
        split at h
        · obtain ⟨h1, h2, h3⟩ := h
          simp only [leP_eq, nI_eq, decide_eq_true_eq] at h1 h2
          refine fin (hbn _ rfl) h1 h2 (by omega) ?_
          simpa [natOf_eq] using h3
        · obtain ⟨h1, h2, h3, h4⟩ := h
          simp only [leP_eq, nI_eq, decide_eq_true_eq] at h1 h2 h3
          exact fin (hbh _ rfl) h1 h2 h3 h4
        · exact h.elim
      · exact hs.elim
    · exact h.elim
  · -- an own slice
    rename_i o off len sz
    simp only [getL_eq] at h
    split at h
    · rename_i n sz' get fz hob
      have hob := getD_obj hob (by simp)
      split at h
      · rename_i e _ _ _ hti
        obtain ⟨d, hd, hu⟩ := (hT.ti _ _ hti).underlying
        obtain rfl := kindOf_slice hd
        obtain ⟨hs, hsz, hn, h⟩ := h
        split at hs
        · rename_i te hte
          simp only [Nat.beq_eq] at hs hsz
          simp only [eqN_eq, addO_eq] at hn
          subst hsz
          split at h
          · obtain ⟨h1, h2, h3⟩ := h
            simp only [leP_eq, nI_eq, decide_eq_true_eq] at h1 h2
            cases hx with | ref _ _ _ _ _ ho hr hlen =>
            obtain ⟨a, cap, rfl⟩ := hlen
            obtain ⟨-, hok⟩ := hr n sz get fz hob rfl
            have hcap : len ≤ cap := by
              rcases hok hn with ⟨b, cap', vs, el, fr, e1, e2, e3, e4, e5⟩ | ⟨-, e2, e⟩ | ⟨_, e2, e, -⟩
              · cases e2; exact e5
              · omega
              · omega
            have := run_sliceBounds (P := P) (w := w) (b := true) (len := len) (cap := cap) hbl (hbn _ rfl) h1 h2 (by omega)
            refine .pure r (v := .slice (if cap = l.toNat then a else a.map (·.add (l.toNat * te.size))) (len - l.toNat) (cap - l.toNat)) (by simp [Instr.sliceAt, Instr.slice, hu, this, (hT.ti _ _ hte).sizeOf w]) ?_ h3
            simp only [subN_eq, natOf_eq]
            refine .ref _ _ _ _ _ ho (fun n' sz2 get2 fz2 hob2 _ => ?_) ⟨_, _, rfl⟩
            rw [hob] at hob2
            cases hob2
            simp only [addO_eq]
            refine ⟨by omega, fun _ => ?_⟩
            rcases hok hn with ⟨b, cap', vs, el, fr, e1, e2, e3, e4, e5⟩ | ⟨e1, e2, e⟩ | ⟨a', e2, e, e3⟩
            · cases e2
              by_cases hc : cap = l.toNat
              · by_cases hl0 : l.toNat = 0
                · refine .inl ⟨b, 0, vs, el, fr, e1, ?_, e3, ?_, by omega⟩
                  · rw [if_pos hc, hl0, hc, hl0]; simp
                  · have : (off + cap) * sz = off * sz + cap * sz := Nat.add_mul _ _ _
                    rw [hl0]; simp; omega
                · refine .inr (.inr ⟨some ⟨b, off * sz, none⟩, ?_, by omega, by omega⟩)
                  rw [if_pos hc]
                  have h1 : len - l.toNat = 0 := by omega
                  have h2 : cap - l.toNat = 0 := by omega
                  rw [h1, h2]
              · refine .inl ⟨b, cap - l.toNat, vs, el, fr, e1, ?_, e3, ?_, by omega⟩
                · rw [if_neg hc, Option.map_some, Addr.add_mid, hs, Nat.add_mul]
                · rw [show off + l.toNat + (cap - l.toNat) = off + cap by omega]; exact e4
            · cases e2
              obtain rfl : l = 0 := by omega
              exact .inr (.inl ⟨e1, by simp, by omega⟩)
            · cases e2
              obtain rfl : l = 0 := by omega
              exact .inr (.inr ⟨a, by simp, by omega, by omega⟩)
          · rename_i k h'
            obtain ⟨h1, h2, h3, h4⟩ := h
            simp only [leP_eq, nI_eq, decide_eq_true_eq] at h1 h2 h3
            obtain ⟨I', hs', hI⟩ := freeze_ok r hob
            have hd := ref_data hs'.1 (n := n) (fz := n) (by rw [List.getElem?_set_self (List.getElem?_eq_some_iff.1 hob).1]) (hx.goes hs'.2) hn hI
            obtain ⟨v', g1, g2⟩ := sliceD_ok hT hu hte hd (.inl hs) hbl (hbh _ rfl) h1 h2 h3
            rw [setL_eq] at h4
            refine ⟨v', _, w, I', ι, _, g1, h4, .d _ _ ?_, hs'.1, hs'.2, .refl _ _⟩
            have e : shG get (addO off (natOf l)) = fun i j => offG off get (l.toNat + i) j := by
              funext i j
              simp [shG_eq, natOf_eq, addO_eq, offG_eq, Nat.add_assoc]
            rw [e]
            simpa [subN_eq, natOf_eq] using g2
          · exact h.elim
        · exact hs.elim
      · exact h.elim
    · exact h.elim
  · exact h.elim

end Go.VM
