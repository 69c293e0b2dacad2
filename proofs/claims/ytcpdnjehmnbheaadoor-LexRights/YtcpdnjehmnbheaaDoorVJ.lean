/- Building and making. -/
import Derived.Test.YtcpdnjehmnbheaaDoorVI
set_option linter.unusedSimpArgs false
set_option linter.unusedVariables false
set_option linter.unusedSectionVars false
namespace Go.VM
open Ops
variable [Ops] [Glb] [Lim]
open Go.RowKit (Below)

variable {P : Program} {T : Tab} {B : Nat} {ι : Nat → Option Nat} {I : Nat → Nat → Prop} {w : World} {H : AHeap}

/-! ### fill -/
theorem foldl_set (off : Nat) : ∀ (l : List Value) (j : Nat) (cs : Array Value), ((l.zipIdx j).foldl (fun cs (p : Value × Nat) => cs.setIfInBounds (off + p.2) p.1) cs).size = cs.size ∧
    ∀ k, ((l.zipIdx j).foldl (fun cs (p : Value × Nat) => cs.setIfInBounds (off + p.2) p.1) cs).getD k undef = if off + j ≤ k ∧ k < off + j + l.length ∧ k < cs.size then l.getD (k - (off + j)) undef else cs.getD k undef
  | [], j, cs => ⟨rfl, fun k => by rw [if_neg (by simp; omega)]; rfl⟩
  | v :: l, j, cs => by
    obtain ⟨h1, h2⟩ := foldl_set off l (j + 1) (cs.setIfInBounds (off + j) v)
    refine ⟨by simpa [List.zipIdx_cons] using h1, fun k => ?_⟩
    rw [List.zipIdx_cons, List.foldl_cons, h2 k]
    simp only [Array.size_setIfInBounds]
    by_cases c1 : off + (j + 1) ≤ k ∧ k < off + (j + 1) + l.length ∧ k < cs.size
    · rw [if_pos c1, if_pos (by simp; omega)]
      rw [show k - (off + j) = (k - (off + (j + 1))) + 1 by omega, List.getD_cons_succ]
    · rw [if_neg c1]
      by_cases c2 : k = off + j
      · subst c2
        by_cases c3 : off + j < cs.size
        · rw [if_pos (by simp; omega)]
          simp [Array.getD_eq_getD_getElem?, Array.getElem?_setIfInBounds, c3]
        · rw [if_neg (by omega)]
          simp [Array.getD_eq_getD_getElem?, Array.getElem?_setIfInBounds, c3]
      · rw [if_neg (by simp; omega)]
        simp [Array.getD_eq_getD_getElem?, Array.getElem?_setIfInBounds, Ne.symm c2]

def RepCs (w : World) (I : Nat → Nat → Prop) (ι : Nat → Option Nat) (H : AHeap) (vs : Array Value) (cs : List A) : Prop :=
  vs.size = cs.length ∧ ∀ k, k < cs.length → RepA w I ι H (vs.getD k undef) (cs.getD k .undef)

theorem fill_ok {place place' : Nat → Option (Nat × Nat)} (hp : ∀ i p, place i = some p → place' i = some p) : ∀ (parts : List (Nat × A)) (vparts : List (Nat × Value)) (hl : vparts.length = parts.length)
    (hr : ∀ k, k < parts.length → (vparts.getD k (0, undef)).1 = (parts.getD k (0, .undef)).1 ∧ RepA w I ι H (vparts.getD k (0, undef)).2 (parts.getD k (0, .undef)).2)
    (vs : Array Value) (cs : List A) (hc : RepCs w I ι H vs cs) (cs' : List A) (h : fillA place cs parts = some cs'),
    ∃ vs', Instr.fill place' vs vparts = some vs' ∧ RepCs w I ι H vs' cs' ∧ cs'.length = cs.length
  | [], vparts, hl, _, vs, cs, hc, cs', h => by
    cases vparts with
    | nil => cases h; exact ⟨vs, rfl, hc, rfl⟩
    | cons p q => simp at hl
  | (i, a) :: parts, vparts, hl, hr, vs, cs, hc, cs', h => by
    cases vparts with
    | nil => simp at hl
    | cons p vparts =>
      obtain ⟨i', v⟩ := p
      have h0 := hr 0 (by simp)
      simp only [List.getD_cons_zero] at h0
      obtain ⟨rfl, hv⟩ := h0
      simp only [fillA] at h
      split at h
      · cases h
      · rename_i off size hpl
        split at h
        · rename_i hcond
          simp only [Bool.and_eq_true, Nat.beq_eq, Nat.ble_eq, lenL_eq] at hcond
          obtain ⟨⟨hlf, hsz⟩, hfit⟩ := hcond
          obtain ⟨g1, g2⟩ := rep_cells hv hlf
          have hvsz : v.cells.size = size := by omega
          have hcsz := hc.1
          obtain ⟨f1, f2⟩ := foldl_set off v.cells.toList 0 vs
          have hfold : (v.cells.zipIdx.foldl (fun cs (c, j) => cs.setIfInBounds (off + j) c) vs) = ((v.cells.toList.zipIdx 0).foldl (fun cs (p : Value × Nat) => cs.setIfInBounds (off + p.2) p.1) vs) := by
            rw [← Array.foldl_toList]
            simp
          have hnew : RepCs w I ι H ((v.cells.toList.zipIdx 0).foldl (fun cs (p : Value × Nat) => cs.setIfInBounds (off + p.2) p.1) vs) (overL cs off a.cells) := by
            refine ⟨by rw [f1, overL_length]; exact hcsz, fun k hk => ?_⟩
            rw [overL_length] at hk
            rw [f2 k, overL_getD _ _ _ _ _ (by omega)]
            have hll : v.cells.toList.length = a.cells.length := by simpa using g1
            rw [hll]
            by_cases c : off ≤ k ∧ k < off + a.cells.length
            · rw [if_pos (by omega), if_pos c]
              have := (g2 (k - off) (by omega)).1
              simpa [Array.getD_eq_getD_getElem?, List.getD_eq_getElem?_getD] using this
            · rw [if_neg (by omega), if_neg c]
              exact hc.2 k hk
          obtain ⟨vs', q1, q2, q3⟩ := fill_ok hp parts vparts (by simpa using hl) (fun k hk => by simpa using hr (k + 1) (by simpa using hk)) _ _ hnew cs' h
          refine ⟨vs', ?_, q2, by rw [q3, overL_length]⟩
          simp only [Instr.fill, hp _ _ hpl]
          have hcnd : ¬ ((decide (v.cells.size ≠ size) || decide (off + v.cells.size > vs.size)) = true) := by simp; omega
          rw [if_neg hcnd, hfold]
          exact q1
        · cases h

theorem parts_rep {a : Act} {tm : List A} (hT : RepT w I ι H a tm) (parts : Array (Nat × Operand)) :
    (parts.map fun (i, x) => (i, a.eval x)).toList.length = (parts.toList.map fun (i, x) => (i, ev tm x)).length ∧
    ∀ k, k < (parts.toList.map fun (i, x) => (i, ev tm x)).length → ((parts.map fun (i, x) => (i, a.eval x)).toList.getD k (0, undef)).1 = ((parts.toList.map fun (i, x) => (i, ev tm x)).getD k (0, .undef)).1 ∧
      RepA w I ι H ((parts.map fun (i, x) => (i, a.eval x)).toList.getD k (0, undef)).2 ((parts.toList.map fun (i, x) => (i, ev tm x)).getD k (0, .undef)).2 := by
  refine ⟨by simp, fun k hk => ?_⟩
  have hk' : k < parts.size := by simpa using hk
  simp only [Array.toList_map, List.getD_eq_getElem?_getD, List.getElem?_map, Array.getElem?_toList, Array.getElem?_eq_getElem hk', Option.map_some, Option.getD_some]
  exact ⟨trivial, ev_rep hT _⟩

theorem run_mapM_list {α β : Type} (f : α → Sem β) (g : α → β) : ∀ (l : List α), (∀ x ∈ l, (f x).run P w = .ok (g x) w) → (l.mapM f).run P w = .ok (l.map g) w
  | [], _ => rfl
  | x :: l, h => by
    rw [List.mapM_cons]
    simp only [Sem.run_bind, h x (by simp), Result.andThen_ok, run_mapM_list f g l (fun y hy => h y (by simp [hy])), Sem.run_pure, List.map_cons]

theorem run_mapM_array {α β : Type} (f : α → Sem β) (g : α → β) (l : Array α) (h : ∀ x ∈ l.toList, (f x).run P w = .ok (g x) w) : (l.mapM f).run P w = .ok (l.map g) w := by
  rw [Array.mapM_eq_mapM_toList]
  simp only [Sem.run_map, run_mapM_list f g l.toList h, Result.andThen_ok]
  congr 1
  apply Array.ext'
  simp

theorem allTI_ok {T : Tab} : ∀ {fs : List (Nat × Nat)}, allTI T fs = true → ∀ p ∈ fs, ∃ ti, T.ti p.2 = some ti := by
  intro fs
  induction fs with
  | nil => intro _ p hp; cases hp
  | cons q fs ih =>
    intro h p hp
    simp only [allTI, Bool.and_eq_true] at h
    rcases List.mem_cons.1 hp with rfl | hp
    · cases hx : T.ti p.2 with
      | none => simp [hx] at h
      | some ti => exact ⟨ti, rfl⟩
    · exact ih h.2 p hp

theorem wbuild_ok (hT : TabOk P T) {t : Nat} {parts : List (Nat × A)} {vparts : Array (Nat × Value)} {Q : A → Prop} (r : Rel B ι I w H) (hl : vparts.toList.length = parts.length)
    (hr : ∀ k, k < parts.length → (vparts.toList.getD k (0, undef)).1 = (parts.getD k (0, .undef)).1 ∧ RepA w I ι H (vparts.toList.getD k (0, undef)).2 (parts.getD k (0, .undef)).2) (h : wbuild T t parts Q) :
    StepsV P B (Instr.build t vparts) w I ι H (fun a H' => Q a ∧ H' = H) := by
  unfold wbuild at h
  split at h
  · rename_i fs _ _ zero hti
    obtain ⟨d, hd, hu⟩ := (hT.ti _ _ hti).underlying
    obtain ⟨fa, rfl, hfa⟩ := kindOf_struct hd
    obtain ⟨z, hz, hz1, hz2⟩ := (hT.ti _ _ hti).zeroValue w
    obtain ⟨hall, h⟩ := h
    split at h
    · rename_i cs hcs
      have hmem : ∀ x ∈ fa.toList, ∃ ti, TIOk P x.type ti ∧ T.ti x.type = some ti := fun x hx => by
        obtain ⟨ti, hti⟩ := allTI_ok hall (x.offset, x.type) (by rw [← hfa]; exact List.mem_map.2 ⟨x, hx, rfl⟩)
        exact ⟨ti, hT.ti _ _ hti, hti⟩
      have hmap := run_mapM_array (P := P) (w := w) (fun f : Field => do pure (f.offset, ← sizeOf f.type)) (fun f : Field => (f.offset, match T.ti f.type with | some ti => ti.size | none => 0)) fa (fun x hx => by
        obtain ⟨ti, h1, h2⟩ := hmem x hx
        simp [h1.sizeOf w, h2])
      obtain ⟨g1, g2⟩ := zero_rep (w := w) (I := I) (ι := ι) (H := H) hz1
      obtain ⟨vs', q1, q2, q3⟩ := fill_ok (w := w) (I := I) (ι := ι) (H := H) (place := structPlace T fs) (place' := ((fa.map (fun f : Field => (f.offset, match T.ti f.type with | some ti => ti.size | none => 0)))[·]?)) (fun i p hp => by
          unfold structPlace at hp
          rw [getL_eq] at hp
          split at hp
          · rename_i off ft hget
            split at hp
            · rename_i ti hft
              cases hp
              rw [List.getD_eq_getElem?_getD, List.getElem?_map, ← hfa, List.getElem?_map] at hget
              cases hq : fa.toList[i]? with
              | none => simp [hq] at hget
              | some fd =>
                simp [hq] at hget
                have hq' : fa[i]? = some fd := by simpa using hq
                simp [hq', hget.1, hget.2, hft]
            · cases hp
          · cases hp) parts vparts.toList hl hr z.cells zero ⟨g1, g2⟩ cs hcs
      have hrep := RepA.agg (w := w) (I := I) (ι := ι) (H := H) vs'.toList cs (by simpa using q2.1) (fun k hk => by
        have := q2.2 k hk
        simpa [Array.getD_eq_getD_getElem?, List.getD_eq_getElem?_getD] using this)
      refine .pure r (v := .agg vs') ?_ (by simpa using hrep) ⟨h, rfl⟩
      simp only [Instr.build, Sem.run_bind, hz, Result.andThen_ok, hu, hmap, Array.getElem?_map] at q1 ⊢
      simp [q1]
    · exact h.elim
  · rename_i n e _ _ zero hti
    obtain ⟨d, hd, hu⟩ := (hT.ti _ _ hti).underlying
    obtain rfl := kindOf_array hd
    obtain ⟨z, hz, hz1, hz2⟩ := (hT.ti _ _ hti).zeroValue w
    split at h
    · rename_i te hte
      split at h
      · rename_i cs hcs
        obtain ⟨g1, g2⟩ := zero_rep (w := w) (I := I) (ι := ι) (H := H) hz1
        obtain ⟨vs', q1, q2, q3⟩ := fill_ok (w := w) (I := I) (ι := ι) (H := H) (place' := fun i => some (i * te.size, te.size)) (fun i p hp => hp) parts vparts.toList hl hr z.cells zero ⟨g1, g2⟩ cs hcs
        have hrep := RepA.agg (w := w) (I := I) (ι := ι) (H := H) vs'.toList cs (by simpa using q2.1) (fun k hk => by
          have := q2.2 k hk
          simpa [Array.getD_eq_getD_getElem?, List.getD_eq_getElem?_getD] using this)
        refine .pure r (v := .agg vs') ?_ (by simpa using hrep) ⟨h, rfl⟩
        simp [Instr.build, hz, hu, (hT.ti _ _ hte).sizeOf w, q1]
      · exact h.elim
    · exact h.elim
  · exact h.elim

/-! ### New arrays -/
theorem arr_ok (r : Rel B ι I w H) {w' : World} {vs : Array Value} {el : TypeId} (hw : w'.heap = (w.alloc (.cells vs el)).heap) (hb : Below B w w') {n sz : Nat} {get : Nat → Nat → D} (hs : n * sz ≤ vs.size) (hc : ∀ i j, i < n → j < sz → RepD w I (vs.getD (i * sz + j) undef) (get i j)) {cap : Nat} (hcap : n ≤ cap) (hcs : cap * sz ≤ vs.size) :
    RepA w' I (updι ι H.length (some w.heap.size)) (H ++ [.arr n sz get 0]) (.slice (some ⟨w.heap.size, 0, none⟩) n cap) (.ref H.length 0 n sz) ∧
    Rel B (updι ι H.length (some w.heap.size)) I w' (H ++ [.arr n sz get 0]) ∧ Goes w w' I I ι (updι ι H.length (some w.heap.size)) H (H ++ [.arr n sz get 0]) := by
  have hbl := fun b (h : b < w.heap.size) => (show w'.heap[b]? = w.heap[b]? by rw [hw]; exact heap_alloc_eq w (.cells vs el) b h)
  have hnew : w'.heap[w.heap.size]? = some (.cells vs el) := by rw [hw]; exact heap_alloc_new _ _
  have hsz : w.heap.size ≤ w'.heap.size := by rw [hw]; show _ ≤ (w.heap.push _).size; simp
  have g := Goes.new hbl r.imm ι H (.arr n sz get 0) (some w.heap.size)
  refine ⟨?_, ?_, g⟩
  · refine .ref _ _ _ _ _ (by simp) (fun n' sz' get' fz' h _ => ?_) ⟨_, _, rfl⟩
    rw [List.getElem?_append_right (Nat.le_refl _)] at h
    simp at h
    obtain ⟨rfl, rfl, rfl, rfl⟩ := h
    exact ⟨by omega, fun _ => .inl ⟨w.heap.size, cap, vs, el, (0, 0), by simp [updι], by simp, hnew, by simpa using hcs, hcap⟩⟩
  · refine r.new hsz hbl _ _ (fun b' e => by cases e; exact Nat.le_refl _) ?_
    refine ⟨Nat.zero_le _, .inl ⟨w.heap.size, vs, el, (0, 0), by simp [updι], r.base, hnew, hs, fun i j hi hj => (hc i j hi hj).mono g.same g.imm, fun k _ hi => ?_, fun k _ => ?_⟩⟩
    · exact absurd (r.imm _ _ hi) (Nat.lt_irrefl _)
    · unfold World.frozen?; rw [hnew]; simp

theorem repL_length {α : Type} (xs : List α) (n : Nat) : (repL xs n).length = n * xs.length := by
  induction n with
  | zero => simp [repL]
  | succ n ih => simp [repL, ih, Nat.add_mul]; omega

theorem repL_getD {α : Type} (xs : List α) (d : α) : ∀ (n k : Nat), k < n * xs.length → (repL xs n).getD k d = xs.getD (k % xs.length) d
  | 0, k, h => by simp at h
  | n + 1, k, h => by
    rw [Nat.add_mul, Nat.one_mul] at h
    by_cases c : k < xs.length
    · simp only [repL, List.getD_eq_getElem?_getD, List.getElem?_append_left c, Nat.mod_eq_of_lt c]
    · have : xs.length ≤ k := by omega
      simp only [repL, List.getD_eq_getElem?_getD, List.getElem?_append_right this]
      have ih := repL_getD xs d n (k - xs.length) (by omega)
      simp only [List.getD_eq_getElem?_getD] at ih
      rw [ih, Nat.mod_eq_sub_mod this]

end Go.VM
