/- Loads, stores, new objects. -/
import Derived.Test.YtcpdnjehmnbheaaDoorVD
set_option linter.unusedSimpArgs false
set_option linter.unusedVariables false
set_option linter.unusedSectionVars false
namespace Go.VM
open Ops
variable [Ops] [Glb] [Lim]
open Go.RowKit (Below)

variable {P : Program} {T : Tab} {B : Nat} {ι : Nat → Option Nat} {I : Nat → Nat → Prop} {w : World} {H : AHeap}

theorem getD_drop_take {α : Type} (l : List α) (off n k : Nat) (d : α) (h : k < n) : ((l.drop off).take n).getD k d = l.getD (off + k) d := by
  simp only [List.getD_eq_getElem?_getD, List.getElem?_take, h, if_true, List.getElem?_drop]

theorem cellsD_length (get : Nat → Nat → D) (i j n : Nat) : (cellsD get i j n).length = n := by
  induction n generalizing j with
  | zero => rfl
  | succ n ih => simp [cellsD, ih]

theorem cellsD_getD (get : Nat → Nat → D) (i j n k : Nat) (h : k < n) : (cellsD get i j n).getD k .undef = .d (get i (j + k)) := by
  induction n generalizing j k with
  | zero => omega
  | succ n ih =>
    cases k with
    | zero => simp [cellsD]
    | succ k =>
      have := ih (j + 1) k (by omega)
      simp only [cellsD, List.getD_cons_succ, this]
      rw [show j + 1 + k = j + (k + 1) by omega]

theorem loadVar_ok {t : Nat} {i : TI} (hti : TIOk P t i) (h1 : 1 ≤ i.size) {b o : Nat} (fv : Nat → Value) (as : List A) (hl : as.length = i.size)
    (hc : ∀ k, k < i.size → w.cell? ⟨b, o + k, none⟩ = some (fv k)) (hr : ∀ k, k < i.size → RepA w I ι H (fv k) (as.getD k .undef)) :
    ∃ v, (loadVar t ⟨b, o, none⟩).run P w = .ok v w ∧ RepA w I ι H v (if i.kind.isAgg then .agg as else as.getD 0 .undef) := by
  by_cases ha : i.kind.isAgg = true
  · let cs := (List.range i.size).map fv
    refine ⟨.agg cs.toArray, ?_, ?_⟩
    · have hrun := run_loadCells_list (P := P) w ⟨b, o, none⟩ cs (fun j v hv => by
        rw [Addr.add_mid]
        have hj : j < i.size := by
          have := (List.getElem?_eq_some_iff.1 hv).1
          simpa [cs] using this
        rw [hc j hj]
        simp [cs, List.getElem?_eq_getElem, hj] at hv
        rw [hv])
      have hn : cs.length = i.size := by simp [cs]
      rw [hn] at hrun
      simp [loadVar, Sem.run_bind, hti.isAgg w, ha, hti.sizeOf w, hrun]
    · rw [if_pos ha]
      refine .agg cs as (by simp [cs, hl]) (fun k hk => ?_)
      have hk' : k < i.size := by omega
      have : cs.getD k undef = fv k := by simp [cs, List.getD_eq_getElem?_getD, hk']
      rw [this]
      exact hr k hk'
  · have h0 := hc 0 (by omega)
    simp only [Nat.add_zero] at h0
    refine ⟨fv 0, ?_, ?_⟩
    · simp [loadVar, Sem.run_bind, hti.isAgg w, ha, h0]
    · rw [if_neg ha]
      exact hr 0 (by omega)

theorem cell_of_block {b k : Nat} {vs : Array Value} {el : TypeId} {fr : Nat × Nat} (h : w.heap[b]? = some (.cells vs el fr)) (hk : k < vs.size) : w.cell? ⟨b, k, none⟩ = some (vs.getD k undef) := by
  simp [World.cell?, h, Array.getElem?_eq_getElem hk, hk]

theorem wload_pure (hT : TabOk P T) {t : Nat} {p : A} {vp : Value} {Q : A → Prop} (r : Rel B ι I w H) (hp : RepA w I ι H vp p) (h : wload T t p H Q) :
    ∃ v x, (Instr.loadAt t vp).run P w = .ok v w ∧ RepA w I ι H v x ∧ Q x := by
  unfold wload at h
  split at h
  · exact h.elim
  rename_i ti hti
  have hti := hT.ti _ _ hti
  split at h
  · -- a box
    rename_i o off
    simp only [getL_eq] at h
    split at h
    · rename_i cs hcs
      obtain ⟨h1, h2, h3⟩ := h
      simp only [Nat.ble_eq, lenL_eq] at h1 h2
      have hcs : H[o]? = some (.box cs) := by
        rw [List.getD_eq_getElem?_getD] at hcs
        cases hx : H[o]? with
        | none => simp [hx] at hcs
        | some x => simp [hx] at hcs; rw [hcs]
      obtain ⟨b, vs, el, fr, e1, e2, e3, e4, e5, e6⟩ := r.obj o _ hcs
      cases hp with | ptr _ _ _ ho hq _ =>
      obtain ⟨b', e1', rfl⟩ := hq cs hcs
      obtain rfl : b = b' := by rw [e1] at e1'; exact Option.some.inj e1'
      obtain ⟨v, hv1, hv2⟩ := loadVar_ok (w := w) (I := I) (ι := ι) (H := H) hti h2 (b := b) (o := off) (fun k => vs.getD (off + k) undef) ((cs.drop off).take ti.size) (by simp; omega)
        (fun k hk => cell_of_block e3 (by omega)) (fun k hk => by rw [getD_drop_take _ _ _ _ _ hk]; exact e5 (off + k) (by omega))
      refine ⟨v, _, by simp [Instr.loadAt, Instr.sureAddr, hv1], hv2, ?_⟩
      rw [takeL_eq, dropL_eq] at h3
      rwa [getD_drop_take _ _ _ _ _ (by omega), Nat.add_zero]
    · exact h.elim
  · -- an element of an own array
    rename_i o i j len
    simp only [getL_eq] at h
    split at h
    · rename_i n sz get fz hcs
      obtain ⟨h0, h1, h2, hi, h3⟩ := h
      simp only [Nat.ble_eq, eqN_eq, ltN_eq] at h1 h2 h0 hi
      have hcs : H[o]? = some (.arr n sz get fz) := by
        rw [List.getD_eq_getElem?_getD] at hcs
        cases hx : H[o]? with
        | none => simp [hx] at hcs
        | some x => simp [hx] at hcs; rw [hcs]
      obtain ⟨hfz, hob⟩ := r.obj o _ hcs
      cases hp with | eptr _ _ _ _ _ ho hq _ =>
      obtain ⟨b', e1', rfl⟩ := (hq n sz get fz hcs).2 h0 hi
      rcases hob with ⟨b, vs, el, fr, e1, e2, e3, e4, e5, e6⟩ | ⟨e1, e2⟩
      · obtain rfl : b = b' := by rw [e1] at e1'; exact Option.some.inj e1'
        have hlt : ∀ k, k < ti.size → i * sz + j + k < vs.size := fun k hk => by
          have : (i + 1) * sz ≤ n * sz := Nat.mul_le_mul_right _ hi
          rw [Nat.add_mul] at this; omega
        obtain ⟨v, hv1, hv2⟩ := loadVar_ok (w := w) (I := I) (ι := ι) (H := H) hti h2 (b := b) (o := i * sz + j) (fun k => vs.getD (i * sz + j + k) undef) (cellsD get i j ti.size) (cellsD_length _ _ _ _)
          (fun k hk => cell_of_block e3 (hlt k hk)) (fun k hk => by
            rw [cellsD_getD _ _ _ _ _ hk]
            refine .d _ _ ?_
            have := e5 i (j + k) hi (by omega)
            rwa [show i * sz + j + k = i * sz + (j + k) by omega])
        refine ⟨v, _, by simp [Instr.loadAt, Instr.sureAddr, hv1], hv2, ?_⟩
        rwa [cellsD_getD _ _ _ _ _ (by omega), Nat.add_zero]
      · omega
    · exact h.elim
  · rename_i get i j sz
    obtain ⟨h1, h2, h3⟩ := h
    simp only [Nat.ble_eq] at h1 h2
    cases hp with | iptr b o _ _ _ _ vals hc hr =>
    obtain ⟨v, hv1, hv2⟩ := loadVar_ok (w := w) (I := I) (ι := ι) (H := H) hti h2 (b := b) (o := o + j) (fun k => vals (j + k)) (cellsD get i j ti.size) (cellsD_length _ _ _ _)
      (fun k hk => by rw [show o + j + k = o + (j + k) by omega]; exact (hc (j + k) (by omega)).2) (fun k hk => by rw [cellsD_getD _ _ _ _ _ hk]; exact .d _ _ (hr (j + k) (by omega)))
    refine ⟨v, _, by simp [Instr.loadAt, Instr.sureAddr, hv1], hv2, ?_⟩
    rwa [cellsD_getD _ _ _ _ _ (by omega), Nat.add_zero]
  · exact h.elim

theorem wload_ok (hT : TabOk P T) {t : Nat} {p : A} {vp : Value} {Q : A → Prop} (r : Rel B ι I w H) (hp : RepA w I ι H vp p) (h : wload T t p H Q) :
    StepsV P B (Instr.loadAt t vp) w I ι H (fun a H' => Q a ∧ H' = H) := by
  obtain ⟨v, x, h1, h2, h3⟩ := wload_pure hT r hp h
  exact .pure r h1 h2 ⟨h3, rfl⟩

/-! ### New objects -/
theorem heap_alloc_eq (w : World) (x : Obj) (b : Nat) (h : b < w.heap.size) : (w.alloc x).heap[b]? = w.heap[b]? := by
  show (w.heap.push x)[b]? = _
  rw [Array.getElem?_push, if_neg (by omega)]

theorem heap_alloc_new (w : World) (x : Obj) : (w.alloc x).heap[w.heap.size]? = some x := by
  show (w.heap.push x)[w.heap.size]? = _
  simp

theorem Below.new (w : World) (x : Obj) (h : B ≤ w.heap.size) : Below B w (w.alloc x) := (Below.refl B w).alloc h x

theorem rep_cells {v : Value} {a : A} (h : RepA w I ι H v a) (hl : allLeaf a.cells = true) :
    v.cells.size = a.cells.length ∧ ∀ k, k < a.cells.length → RepA w I ι H (v.cells.getD k undef) (a.cells.getD k .undef) ∧ (v.cells.getD k undef).oneCell' = true := by
  have leafOne : ∀ {v : Value} {a : A}, RepA w I ι H v a → a.leaf = true → v.cells = #[v] ∧ v.oneCell' = true := by
    intro v a h hl
    cases h with
    | d _ _ h => exact ⟨h.cells, h.oneCell⟩
    | nils => exact ⟨rfl, rfl⟩
    | ref _ _ _ _ _ _ _ hlen => obtain ⟨_, _, e⟩ := hlen; rw [e]; exact ⟨rfl, rfl⟩
    | ptr _ _ _ _ _ hv => obtain ⟨_, rfl⟩ := hv; exact ⟨rfl, rfl⟩
    | eptr _ _ _ _ _ _ _ hv => obtain ⟨_, rfl⟩ := hv; exact ⟨rfl, rfl⟩
    | iptr => exact ⟨rfl, rfl⟩
    | itr _ _ _ _ hv => obtain ⟨_, rfl⟩ := hv; exact ⟨rfl, rfl⟩
    | clo => exact ⟨rfl, rfl⟩
    | agg => simp [A.leaf] at hl
    | tup => simp [A.leaf] at hl
    | undef => simp [A.leaf] at hl
  have all : ∀ (cs : List A), allLeaf cs = true → ∀ k, k < cs.length → (cs.getD k .undef).leaf = true := by
    intro cs
    induction cs with
    | nil => intro _ k hk; simp at hk
    | cons c cs ih =>
      intro h k hk
      simp only [allLeaf, Bool.and_eq_true] at h
      cases k with
      | zero => simpa using h.1
      | succ k => simpa using ih h.2 k (by simpa using hk)
  by_cases hagg : ∃ cs, a = .agg cs
  · obtain ⟨cs, rfl⟩ := hagg
    obtain ⟨vs, rfl, h1, h2⟩ := rep_agg h
    refine ⟨by simpa [Value.cells, A.cells] using h1, fun k hk => ?_⟩
    have hk' : k < cs.length := hk
    have := h2 k hk'
    have e : (Value.agg vs.toArray).cells.getD k undef = vs.getD k undef := by simp [Value.cells, List.getD_eq_getElem?_getD, Array.getD_eq_getD_getElem?]
    rw [e]
    exact ⟨this, (leafOne this (all cs hl k hk')).2⟩
  · have hc : a.cells = [a] := by cases a <;> first | rfl | exact (hagg ⟨_, rfl⟩).elim
    rw [hc] at hl ⊢
    have ha : a.leaf = true := by simpa [allLeaf] using hl
    obtain ⟨h1, h2⟩ := leafOne h ha
    rw [h1]
    refine ⟨rfl, fun k hk => ?_⟩
    have : k = 0 := by simpa using hk
    subst this
    exact ⟨by simpa using h, by simpa using h2⟩

/-- A new box. -/
theorem box_ok (r : Rel B ι I w H) {vs : Array Value} {el : TypeId} {cs : List A} (hs : vs.size = cs.length) (hc : ∀ k, k < cs.length → RepA w I ι H (vs.getD k undef) (cs.getD k .undef)) :
    RepA (w.alloc (.cells vs el)) I (updι ι H.length (some w.heap.size)) (H ++ [.box cs]) (.pointer (some ⟨w.heap.size, 0, none⟩)) (.ptr H.length 0) ∧
    Rel B (updι ι H.length (some w.heap.size)) I (w.alloc (.cells vs el)) (H ++ [.box cs]) ∧ Goes w (w.alloc (.cells vs el)) I I ι (updι ι H.length (some w.heap.size)) H (H ++ [.box cs]) ∧ Below B w (w.alloc (.cells vs el)) := by
  have hb := fun b (h : b < w.heap.size) => heap_alloc_eq w (.cells vs el) b h
  have g := Goes.new hb r.imm ι H (.box cs) (some w.heap.size)
  refine ⟨?_, ?_, g, Below.new _ _ r.base⟩
  · refine .ptr _ _ _ (by simp) (fun cs' h => ⟨w.heap.size, by simp [updι], rfl⟩) ⟨_, rfl⟩
  · refine r.new (by show _ ≤ (w.heap.push _).size; simp) hb _ _ (fun b' e => by cases e; exact Nat.le_refl _) ?_
    refine ⟨w.heap.size, vs, el, (0, 0), by simp [updι], r.base, heap_alloc_new _ _, hs, fun k hk => (hc k hk).goes g, fun k _ hi => ?_, fun k _ => ?_⟩
    · exact absurd (r.imm _ _ hi) (Nat.lt_irrefl _)
    · unfold World.frozen?; rw [heap_alloc_new]; simp

theorem wbox_ok {t : Nat} {x : A} {vx : Value} (r : Rel B ι I w H) (hx : RepA w I ι H vx x) (hl : allLeaf x.cells = true) {Q : A → AHeap → Prop} (h : Q (.ptr (lenL H) 0) (H ++ [.box x.cells])) :
    StepsV P B (Instr.box t vx) w I ι H Q := by
  obtain ⟨h1, h2⟩ := rep_cells hx hl
  obtain ⟨k1, k2, k3, k4⟩ := box_ok (el := t) r h1 (fun k hk => (h2 k hk).1)
  rw [lenL_eq] at h
  exact ⟨_, _, _, I, _, _, by simp [Instr.box, newVar, newRow], h, k1, k2, k3, k4⟩

theorem zero_rep {z : Value} {zs : List A} (h : z.cells.toList.map absLeaf = zs) : z.cells.size = zs.length ∧ ∀ k, k < zs.length → RepA w I ι H (z.cells.getD k undef) (zs.getD k .undef) := by
  subst h
  refine ⟨by simp, fun k hk => ?_⟩
  have hk' : k < z.cells.toList.length := by simpa using hk
  have hk2 : k < z.cells.size := by simpa using hk
  simp only [List.getD_eq_getElem?_getD, List.getElem?_map, List.getElem?_eq_getElem hk', Option.map_some, Option.getD_some, Array.getD_eq_getD_getElem?, Array.getElem?_eq_getElem hk2, Array.getElem_toList]
  exact absLeaf_rep _ _ _ _ _

theorem walloc_ok (hT : TabOk P T) {t : Nat} {ti : TI} (hti : T.ti t = some ti) (r : Rel B ι I w H) {Q : A → AHeap → Prop} (h : Q (.ptr (lenL H) 0) (H ++ [.box ti.zero])) :
    StepsV P B (Instr.alloc t true (.tuple #[])) w I ι H Q := by
  obtain ⟨z, hz, hz1, hz2⟩ := (hT.ti _ _ hti).zeroValue w
  obtain ⟨h1, h2⟩ := zero_rep (w := w) (I := I) (ι := ι) (H := H) hz1
  obtain ⟨k1, k2, k3, k4⟩ := box_ok (el := t) r h1 h2
  rw [lenL_eq] at h
  exact ⟨_, _, _, I, _, _, by simp [Instr.alloc, hz, newVar, newRow], h, k1, k2, k3, k4⟩

end Go.VM
