/- Slices that are made, appending, strings that are ranged over; and all operations together. -/
import Derived.Test.YtcpdnjehmnbheaaDoorVJ
set_option linter.unusedSimpArgs false
set_option linter.unusedVariables false
set_option linter.unusedSectionVars false
namespace Go.VM
open Ops
variable [Ops] [Glb] [Lim]
open Go.RowKit (Below)

variable {P : Program} {T : Tab} {B : Nat} {ι : Nat → Option Nat} {I : Nat → Nat → Prop} {w : World} {H : AHeap}

theorem Below.allocw {w' : World} {x : Obj} (hw : w' = w.alloc x ∨ w' = w.drew.alloc x) (h : B ≤ w.heap.size) : Below B w w' := by
  rcases hw with rfl | rfl
  · exact (Below.refl B w).alloc h x
  · exact ((Below.refl B w).drew).alloc h x

theorem wbuildSlice_ok (hT : TabOk P T) {t len : Nat} {parts : List (Nat × A)} {vparts : Array (Nat × Value)} {Q : A → AHeap → Prop} (r : Rel B ι I w H) (hl : vparts.toList.length = parts.length)
    (hr : ∀ k, k < parts.length → (vparts.toList.getD k (0, undef)).1 = (parts.getD k (0, .undef)).1 ∧ RepA w I ι H (vparts.toList.getD k (0, undef)).2 (parts.getD k (0, .undef)).2) (h : wbuildSlice T t len parts H Q) :
    StepsV P B (Instr.buildSlice t len vparts) w I ι H Q := by
  unfold wbuildSlice at h
  split at h
  · rename_i e _ _ _ hti
    obtain ⟨d, hd, hu⟩ := (hT.ti _ _ hti).underlying
    obtain rfl := kindOf_slice hd
    split at h
    · rename_i te hte
      obtain ⟨h1, h2, h3⟩ := h
      simp only [Nat.ble_eq] at h1 h2
      have hTe := hT.ti _ _ hte
      split at h3
      · rename_i cs hcs
        obtain ⟨z, hz, hz1, hz2⟩ := hTe.zeroValue w
        obtain ⟨g1, g2⟩ := zero_rep (w := w) (I := I) (ι := ι) (H := H) hz1
        have hzn : 0 < z.cells.size := by omega
        -- the zero cells
        let zero : Array Value := if len * te.size = 0 then #[] else z.cells
        have hz0 : RepCs w I ι H ((Array.range (len * te.size)).map (zero[· % zero.size]!)) (repL te.zero len) := by
          refine ⟨by simp [repL_length, ← g1, hz2], fun k hk => ?_⟩
          rw [repL_length, ← g1, hz2] at hk
          have hne : ¬ len * te.size = 0 := by omega
          have hzero : zero = z.cells := by simp only [zero, if_neg hne]
          rw [repL_getD _ _ _ _ (by rw [← g1, hz2]; exact hk), ← g1]
          have hmod : k % z.cells.size < z.cells.size := Nat.mod_lt _ hzn
          have := g2 (k % z.cells.size) (by rw [← g1]; exact hmod)
          have e : ((Array.range (len * te.size)).map (zero[· % zero.size]!)).getD k undef = z.cells.getD (k % z.cells.size) undef := by
            simp [Array.getD_eq_getD_getElem?, hk, hzero, Array.getElem?_eq_getElem hmod, getElem!_pos, hmod]
          rw [e]; exact this
        obtain ⟨vs', q1, q2, q3⟩ := fill_ok (w := w) (I := I) (ι := ι) (H := H) (place' := fun i => some (i * te.size, te.size)) (fun i p hp => hp) parts vparts.toList hl hr _ _ hz0 cs hcs
        obtain ⟨I1, H1, xs, s1, l1, d1, hq⟩ := wdatas_ok cs r (vs := vs'.toList) (by simpa using q2.1) (fun k hk => by
          have := q2.2 k hk
          simpa [Array.getD_eq_getD_getElem?, List.getD_eq_getElem?_getD] using this) h3
        have hcl : cs.length = len * te.size := by rw [q3, repL_length, ← g1, hz2]
        have hidx : ∀ i j, i < len → j < te.size → i * te.size + j < len * te.size := fun i j hi hj => by
          have : (i + 1) * te.size ≤ len * te.size := Nat.mul_le_mul_right _ hi
          rw [Nat.add_mul] at this; omega
        have hvs : vs'.size = len * te.size := by rw [q2.1, hcl]
        obtain ⟨k1, k2, k3⟩ := arr_ok (vs := vs') (el := e) s1.1 (w' := w.alloc (.cells vs' e)) rfl (Below.allocw (.inl rfl) r.base) (n := len) (sz := te.size) (get := rowG te.size xs) (by omega) (fun i j hi hj => by
          have := d1 (i * te.size + j) (by rw [hcl]; exact hidx i j hi hj)
          simpa [rowG_eq, Array.getD_eq_getD_getElem?, List.getD_eq_getElem?_getD] using this) (cap := len) (Nat.le_refl _) (by omega)
        rw [lenL_eq] at hq
        refine ⟨_, _, w.alloc (.cells vs' e), I1, _, _, ?_, hq, k1, k2, s1.2.trans k3, Below.allocw (.inl rfl) r.base⟩
        have hle : ¬ (len * te.size > 2 ^ 24) := by omega
        simp only [Instr.buildSlice, Sem.run_bind, hu, Result.andThen_ok, hTe.sizeOf w, hle, if_false]
        by_cases hz0' : len * te.size = 0
        · simp only [zero, hz0', if_true] at q1
          simp only [hz0', if_true, Sem.run_pure, Result.andThen_ok]
          rw [show (0 : Nat) = len * te.size from hz0'.symm] at q1 ⊢
          simp only [hz0'] at q1 ⊢
          simp at q1 ⊢
          rw [q1]
          simp [newRow]
        · simp only [zero, hz0', if_false] at q1
          simp only [hz0', if_false, Sem.run_bind, hz, Sem.run_pure, Result.andThen_ok]
          rw [q1]
          simp [newRow]
      · exact h3.elim
    · exact h.elim
  · exact h.elim

theorem wmake_ok (hT : TabOk P T) {t : Nat} {n c : A} {vn vc : Value} {Q : A → AHeap → Prop} (r : Rel B ι I w H) (hn : RepA w I ι H vn n) (hc : RepA w I ι H vc c) (h : wmake T t n c H Q) :
    StepsV P B (Instr.makeSlice t vn vc) w I ι H Q := by
  unfold wmake at h
  split at h
  · rename_i e _ _ _ k n k' c hti
    obtain ⟨d, hd, hu⟩ := (hT.ti _ _ hti).underlying
    obtain rfl := kindOf_slice hd
    obtain rfl := rep_int hn
    obtain rfl := rep_int hc
    split at h
    · rename_i te hte
      obtain ⟨h1, h2, h3, h4, h5, h6⟩ := h
      simp only [leP_eq, decide_eq_true_eq] at h1 h2 h3
      simp only [Nat.ble_eq] at h4 h5
      have hTe := hT.ti _ _ hte
      obtain ⟨z, hz, hz1, hz2⟩ := hTe.zeroValue w
      obtain ⟨g1, g2⟩ := zero_rep (w := w) (I := I) (ι := ι) (H := H) hz1
      have hzn : 0 < z.cells.size := by omega
      obtain ⟨I1, H1, xs, s1, l1, d1, hq⟩ := wdatas_ok te.zero r (vs := z.cells.toList) (by simpa using g1) (fun k hk => by
        have := g2 k hk
        simpa [Array.getD_eq_getD_getElem?, List.getD_eq_getElem?_getD] using this) h6
      obtain ⟨inf, hinf, hi1, hi2⟩ := hTe.typeInfo w
      have wn : IntKind.i64.wrap n = n := by
        simp only [IntKind.wrap, IntKind.signed, IntKind.bits]
        simp; omega
      have wc : IntKind.i64.wrap c = c := by
        simp only [IntKind.wrap, IntKind.signed, IntKind.bits]
        simp; omega
      have hbc : ¬ ((te.bytes : Int) * c > 2 ^ 48) := by
        have : (te.bytes : Int) * c ≤ 65536 * 1073741824 := by
          refine Int.le_trans (Int.mul_le_mul_of_nonneg_right (show (te.bytes : Int) ≤ 65536 by omega) (by omega)) ?_
          exact Int.mul_le_mul_of_nonneg_left h3 (by omega)
        omega
      have hbn : ¬ ((te.bytes : Int) * n > 2 ^ 48) := by
        have : (te.bytes : Int) * n ≤ 65536 * 1073741824 := by
          refine Int.le_trans (Int.mul_le_mul_of_nonneg_right (show (te.bytes : Int) ≤ 65536 by omega) (by omega)) ?_
          exact Int.mul_le_mul_of_nonneg_left (by omega) (by omega)
        omega
      let N := c.toNat * te.size
      let zero : Array Value := if N = 0 then #[] else z.cells
      let vs : Array Value := (Array.range N).map (zero[· % zero.size]!)
      have hvs : vs.size = N := by simp [vs]
      have hnc : n.toNat * te.size ≤ N := Nat.mul_le_mul_right _ (by omega)
      have hcell : ∀ i j, i < n.toNat → j < te.size → RepD w I1 (vs.getD (i * te.size + j) undef) (getL xs j .nilp) := fun i j hi hj => by
        have hlt : i * te.size + j < N := by
          have : (i + 1) * te.size ≤ n.toNat * te.size := Nat.mul_le_mul_right _ hi
          rw [Nat.add_mul] at this; omega
        have hne : ¬ N = 0 := by omega
        have hzero : zero = z.cells := by simp only [zero, if_neg hne]
        have hmod : (i * te.size + j) % te.size = j := by
          rw [Nat.add_comm, Nat.add_mul_mod_self_right, Nat.mod_eq_of_lt hj]
        have e : vs.getD (i * te.size + j) undef = z.cells.getD j undef := by
          simp only [vs, hzero, hz2]
          have hj' : j < z.cells.size := by omega
          simp [Array.getD_eq_getD_getElem?, hlt, hmod, Array.getElem?_eq_getElem hj', getElem!_pos, hj']
        rw [e]
        have := d1 j (by omega)
        simpa [getL_eq, Array.getD_eq_getD_getElem?, List.getD_eq_getElem?_getD] using this
      obtain ⟨k1, k2, k3⟩ := arr_ok (vs := vs) (el := e) s1.1 (w' := w.alloc (.cells vs e)) rfl (Below.allocw (.inl rfl) r.base) (n := n.toNat) (sz := te.size) (get := fun _ j => getL xs j .nilp) (by omega) hcell (cap := c.toNat) (by omega) (by omega)
      rw [lenL_eq] at hq
      refine ⟨_, _, w.alloc (.cells vs e), I1, _, _, ?_, by simpa [natOf_eq] using hq, k1, k2, s1.2.trans k3, Below.allocw (.inl rfl) r.base⟩
      have hcn : ¬ (c < 0) := by omega
      have hcnd : ¬ (((decide (c < 0) || decide ((inf.bytes : Int) * c > 2 ^ 48)) || decide (n < 0) || decide (n > c)) = true) := by
        rw [hi2]; simp; omega
      simp only [Instr.makeSlice, Sem.run_bind, hu, Result.andThen_ok, asInt, asIntOf, Sem.run_pure, hinf, wn, wc]
      rw [if_neg hcnd]
      simp only [Sem.run_pure, Sem.run_bind, run_askRoom, Result.andThen_ok, hTe.sizeOf w]
      by_cases hz0 : N = 0
      · have hz0' : c.toNat * te.size = 0 := hz0
        simp only [hz0', if_true, Sem.run_pure, Result.andThen_ok]
        have : vs = #[] := by apply Array.eq_empty_of_size_eq_zero; omega
        simp [newRow, this]
        congr 2
        exact Array.eq_empty_of_size_eq_zero (by simp)
      · have hz0' : ¬ c.toNat * te.size = 0 := hz0
        simp only [hz0', if_false, Sem.run_bind, hz, Sem.run_pure, Result.andThen_ok]
        simp only [vs, zero, hz0, if_false]
        simp [newRow, N]
    · exact h.elim
  · exact h.elim

/-! ### What is appended -/
theorem data_src {v : Value} {n sz : Nat} {get : Nat → Nat → D} (hv : RepD w I v (.sl n sz get)) (size : Nat) (hs : sz = size ∨ n = 0) :
    ∃ news, Src P w v n size news ∧ (∀ i j, i < n → j < size → RepD w I (news.getD (i * size + j) undef) (get i j)) ∧ ∀ x ∈ news.toList, x.oneCell' = true := by
  cases hv with
  | sl0 a cap =>
    refine ⟨#[], ⟨fun w' => rfl, fun w' _ => ?_, by simp⟩, fun i j hi => absurd hi (by omega), fun x hx => by simp at hx⟩
    cases a <;> simp [Builtin.firstCells, loadCells, loadCellsFrom]
  | sl b o _ cap _ _ vals hl hc hr =>
    by_cases hn : n = 0
    · subst hn
      exact ⟨#[], ⟨fun w' => rfl, fun w' _ => by simp [Builtin.firstCells, loadCells, loadCellsFrom], by simp⟩, fun i j hi => absurd hi (by omega), fun x hx => by simp at hx⟩
    · have hs := hs.resolve_right hn
      subst hs
      have hdm : ∀ k, k < n * sz → k / sz < n ∧ k % sz < sz ∧ k / sz * sz + k % sz = k := fun k hk => by
        have h0 : 0 < sz := by
          rcases Nat.eq_zero_or_pos sz with h | h
          · subst h; simp at hk
          · exact h
        refine ⟨(Nat.div_lt_iff_lt_mul h0).2 hk, Nat.mod_lt _ h0, ?_⟩
        rw [Nat.mul_comm]; exact Nat.div_add_mod k sz
      let l : List Value := (List.range (n * sz)).map fun k => vals (k / sz) (k % sz)
      have hll : l.length = n * sz := by simp [l]
      have hlg : ∀ k, k < n * sz → l.getD k undef = vals (k / sz) (k % sz) := fun k hk => by
        simp [l, List.getD_eq_getElem?_getD, hk]
      refine ⟨l.toArray, ⟨fun w' => rfl, fun w' hw => ?_, by simp [hll]⟩, fun i j hi hj => ?_, fun x hx => ?_⟩
      · refine run_firstCells_some (P := P) w' sz n ⟨b, o, none⟩ n cap l hll (fun j v hj => ?_)
        have hjl : j < n * sz := by
          have := (List.getElem?_eq_some_iff.1 hj).1
          omega
        obtain ⟨q1, q2, q3⟩ := hdm j hjl
        have := (hc _ _ q1 q2).2
        rw [q3] at this
        rw [Addr.add_mid]
        have e : w'.cell? ⟨b, o + j, none⟩ = w.cell? ⟨b, o + j, none⟩ := by unfold World.cell?; rw [hw]
        rw [e, this]
        have := hlg j hjl
        rw [List.getD_eq_getElem?_getD, hj] at this
        simpa using this.symm
      · have hlt : i * sz + j < n * sz := by
          have : (i + 1) * sz ≤ n * sz := Nat.mul_le_mul_right _ hi
          rw [Nat.add_mul] at this; omega
        have e : l.toArray.getD (i * sz + j) undef = vals i j := by
          have := hlg _ hlt
          have h0 : 0 < sz := by omega
          rw [show (i * sz + j) / sz = i by rw [Nat.mul_comm, Nat.mul_add_div h0, Nat.div_eq_of_lt hj, Nat.add_zero], show (i * sz + j) % sz = j by rw [Nat.mul_comm, Nat.mul_add_mod, Nat.mod_eq_of_lt hj]] at this
          rw [← this]
          simp [Array.getD_eq_getD_getElem?, List.getD_eq_getElem?_getD]
        rw [e]; exact hr i j hi hj
      · have hx : x ∈ l := by simpa using hx
        obtain ⟨k, hk, rfl⟩ := List.mem_map.1 hx
        have hk := List.mem_range.1 hk
        obtain ⟨q1, q2, q3⟩ := hdm k hk
        exact (hr _ _ q1 q2).oneCell

theorem wsrc_ok (r : Rel B ι I w H) {x : A} {vx : Value} (hx : RepA w I ι H vx x) {K : Nat → (Nat → Nat → D) → Nat → AHeap → Prop} (h : wsrc x H K) :
    ∃ m get sz, K m get sz H ∧ ∀ size, (sz = size ∨ m = 0) → ∃ news, Src P w vx m size news ∧ (∀ i j, i < m → j < size → RepD w I (news.getD (i * size + j) undef) (get i j)) ∧ ∀ x ∈ news.toList, x.oneCell' = true := by
  unfold wsrc at h
  split at h
  · cases hx
    refine ⟨0, _, _, h, fun size _ => ⟨#[], ⟨fun w' => rfl, fun w' _ => by simp [Builtin.firstCells], by simp⟩, fun i j hi => absurd hi (by omega), fun x hx => by simp at hx⟩⟩
  · cases hx with | d _ _ hx =>
    exact ⟨_, _, _, h, fun size hs => data_src hx size hs⟩
  · rename_i s
    obtain rfl := rep_str hx
    refine ⟨_, _, _, h, fun size hs => ?_⟩
    by_cases h0 : s.size = 0
    · refine ⟨#[], ⟨fun w' => by simp [Builtin.lenOf, natOf_eq, lenS_eq], fun w' _ => ?_, by simp [natOf_eq, lenS_eq, h0]⟩, fun i j hi => absurd hi (by simp [natOf_eq, lenS_eq, h0]), fun x hx => by simp at hx⟩
      simp only [Builtin.firstCells, natOf_eq, lenS_eq, Int.toNat_natCast, Sem.run_pure]
      congr 1
      apply Array.eq_empty_of_size_eq_zero
      simp [h0]
    · have hs : size = 1 := by
        rcases hs with hs | hs
        · exact hs.symm
        · exact absurd (by simpa [natOf_eq, lenS_eq] using hs) h0
      subst hs
      have hds : s.data.size = s.size := rfl
      have hex : (s.extract 0 s.size).data = s.data := by
        rw [ByteArray.data_extract, ← hds, Array.extract_size]
      refine ⟨s.data.map fun b => .int .u8 b.toNat, ⟨fun w' => by simp [Builtin.lenOf, natOf_eq, lenS_eq], fun w' _ => ?_, by simp [natOf_eq, lenS_eq]⟩, fun i j hi hj => ?_, fun x hx => ?_⟩
      · simp only [Builtin.firstCells, natOf_eq, lenS_eq, Int.toNat_natCast, Sem.run_pure, hex]
      · have hi' : i < s.data.size := by rw [hds]; simpa [natOf_eq, lenS_eq] using hi
        obtain rfl : j = 0 := by omega
        have : bt s i = (s.data[i].toNat : Int) := by
          rw [bt_eq]
          rw [Int.toNat_natCast, List.getD_eq_getElem?_getD, Array.getElem?_toList, Array.getElem?_eq_getElem hi', Option.getD_some]
        simp only [Nat.mul_one, Nat.add_zero, strG_eq, this]
        rw [Array.getD_eq_getD_getElem?, Array.getElem?_map, Array.getElem?_eq_getElem hi', Option.map_some, Option.getD_some]
        exact .int _ _
      · simp at hx
        obtain ⟨b, _, rfl⟩ := hx
        rfl
  · rename_i o off len sz
    simp only [getL_eq] at h
    split at h
    · rename_i n sz' get fz hob
      obtain ⟨h1, h2, h3⟩ := h
      simp only [Nat.beq_eq] at h1
      simp only [eqN_eq, addO_eq] at h2
      subst h1
      have hob := getD_obj hob (by simp)
      obtain ⟨I', hs', hI⟩ := freeze_ok r hob
      have hd := ref_data hs'.1 (n := n) (fz := n) (by rw [List.getElem?_set_self (List.getElem?_eq_some_iff.1 hob).1]) (hx.goes hs'.2) h2 hI
      refine ⟨len, _, sz, h3, fun size hs => ?_⟩
      obtain ⟨news, q1, q2, q3⟩ := data_src (P := P) hd size hs
      refine ⟨news, q1, fun i j hi hj => ?_, q3⟩
      -- the elements are those of the object, which are data without the freezing
      obtain ⟨-, hobj⟩ := r.obj o _ hob
      have hsz := hs.resolve_right (by omega)
      subst hsz
      cases hx with | ref _ _ _ _ _ ho hr hlen =>
      obtain ⟨-, hok⟩ := hr n sz get fz hob rfl
      rcases hok h2 with ⟨b, cap, vs, el, fr, e1, rfl, e3, e4, e5⟩ | ⟨_, _, e⟩ | ⟨_, _, e, _⟩
      · rcases hobj with ⟨b', vs', el', fr', g1, g2, g3, g4, g5, g6⟩ | ⟨g1, g2⟩
        · obtain rfl : b = b' := by rw [e1] at g1; exact Option.some.inj g1
          have hlt : ∀ k, k < len * sz → off * sz + k < n * sz := fun k hk => by
            rw [← h2, Nat.add_mul]; omega
          have hfirst := run_firstCells_some (P := P) w sz len ⟨b, off * sz, none⟩ len cap ((List.range (len * sz)).map fun k => vs'.getD (off * sz + k) undef) (by simp) (fun j v hj => by
            have hjl : j < len * sz := by
              have := (List.getElem?_eq_some_iff.1 hj).1
              simpa using this
            rw [Addr.add_mid, cell_of_block g3 (by have := hlt j hjl; omega)]
            simpa [hjl] using hj)
          have h1 := q1.first w rfl
          rw [h1] at hfirst
          have hnews := (Result.ok.inj hfirst).1
          have hij : i * sz + j < len * sz := by
            have : (i + 1) * sz ≤ len * sz := Nat.mul_le_mul_right _ hi
            rw [Nat.add_mul] at this; omega
          rw [hnews]
          have e : (((List.range (len * sz)).map fun k => vs'.getD (off * sz + k) undef).toArray).getD (i * sz + j) undef = vs'.getD ((off + i) * sz + j) undef := by
            rw [Nat.add_mul, Nat.add_assoc]
            simp [Array.getD_eq_getD_getElem?, hij]
          rw [e, offG_eq]
          exact g5 (off + i) j (by omega) hj
        · rw [g1] at e1; cases e1
      · omega
      · omega
    · exact h.elim
  · exact h.elim

end Go.VM
