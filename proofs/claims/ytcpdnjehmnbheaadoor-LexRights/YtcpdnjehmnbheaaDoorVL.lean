/- Appending; strings that are ranged over; all operations together. -/
import Derived.Test.YtcpdnjehmnbheaaDoorVK
set_option linter.unusedSimpArgs false
set_option linter.unusedVariables false
set_option linter.unusedSectionVars false
namespace Go.VM
open Ops
variable [Ops] [Glb] [Lim]
open Go.RowKit (Below)

variable {P : Program} {T : Tab} {B : Nat} {ι : Nat → Option Nat} {I : Nat → Nat → Prop} {w : World} {H : AHeap}

theorem zeroCells_size (z : Array Value) (n : Nat) : (Builtin.zeroCells z n).size = n * z.size := by simp [Builtin.zeroCells]

theorem getD_append (a b : Array Value) (k : Nat) : (a ++ b).getD k undef = if k < a.size then a.getD k undef else b.getD (k - a.size) undef := by
  simp only [Array.getD_eq_getD_getElem?, Array.getElem?_append]
  split <;> rfl

theorem noInt_ok (hT : TabOk P T) {t2 : Nat} (h : noInt (T.ti t2) = true) : P.underlying t2 = some .string ∨ ∃ e', P.underlying t2 = some (.slice e') := by
  unfold noInt at h
  split at h
  · rename_i e _ _ _ hti
    obtain ⟨d, h1, h2⟩ := (hT.ti _ _ hti).und
    obtain rfl := kindOf_slice h2
    exact .inr ⟨_, h1⟩
  · rename_i hti
    obtain ⟨d, h1, h2⟩ := (hT.ti _ _ hti).und
    obtain rfl := kindOf_string h2
    exact .inl h1
  · cases h

set_option maxHeartbeats 800000 in
theorem wappend_ok (hT : TabOk P T) {t t2 : Nat} {x y : A} {vx vy : Value} {Q : A → AHeap → Prop} (r : Rel B ι I w H) (hx : RepA w I ι H vx x) (hy : RepA w I ι H vy y) (h : wappend T t t2 x y H Q) (ty : TypeId) :
    StepsV P B (Builtin.append_ #[t, t2] ty #[vx, vy]) w I ι H Q := by
  unfold wappend at h
  split at h
  · rename_i e _ _ _ hti
    obtain ⟨d, hu, hd⟩ := (hT.ti _ _ hti).und
    obtain rfl := kindOf_slice hd
    split at h
    · rename_i te hte
      have hTe := hT.ti _ _ hte
      obtain ⟨ht2, h1, h2, h⟩ := h
      have ht2 := noInt_ok hT ht2
      simp only [Nat.ble_eq] at h1 h2
      obtain ⟨inf, z, hi, hi1, hi2, hz, hz1, hz2⟩ := hTe.info
      obtain ⟨m, get', sz', h, hsrc⟩ := wsrc_ok (P := P) r hy h
      obtain ⟨hs', h⟩ := h
      simp only [Nat.beq_eq, eqN_eq] at hs'
      obtain ⟨news, q1, q2, q3⟩ := hsrc inf.size (by rw [hi1]; exact hs')
      rw [hi1] at q2
      have hnsz : news.size = m * te.size := by rw [q1.size, hi1]
      have hcellEq : ∀ i j, i < m → j < te.size → i * te.size + j < news.size := fun i j hi hj => by
        have : (i + 1) * te.size ≤ m * te.size := Nat.mul_le_mul_right _ hi
        rw [Nat.add_mul] at this; omega
      split at h
      · -- the nil slice
        cases hx
        obtain ⟨h3, h4⟩ := h
        simp only [leN_eq] at h3
        rw [lenL_eq] at h4
        by_cases hm : m = 0
        · subst hm
          have hrun := run_append_none (P := P) (w := w) (ty := ty) (sCap := 0) hu ht2 hi q1 (sLen := 0) (Nat.le_refl _)
          have g := Goes.new (w := w) (w' := w) (fun _ _ => rfl) r.imm ι H (.arr 0 te.size get' 0) none
          refine ⟨.slice none 0 0, _, w, I, _, _, hrun, h4, ?_, ?_, g, .refl _ _⟩
          · refine .ref _ _ _ _ _ (by simp) (fun n' sz'' get'' fz' h _ => ?_) ⟨_, _, rfl⟩
            rw [List.getElem?_append_right (Nat.le_refl _)] at h
            simp at h
            obtain ⟨rfl, rfl, rfl, rfl⟩ := h
            exact ⟨by omega, fun _ => .inr (.inl ⟨by simp [updι], rfl, rfl⟩)⟩
          · refine r.new (Nat.le_refl _) (fun _ _ => rfl) _ _ (fun b' e => by cases e) ?_
            exact ⟨Nat.zero_le _, .inr ⟨by simp [updι], rfl⟩⟩
        · have hbytes : (0 + m) * inf.bytes ≤ 140737488355328 := by
            rw [hi2, Nat.zero_add]
            exact Nat.le_trans (Nat.mul_le_mul h3 h2) (by omega)
          obtain ⟨c, hc1, hrun⟩ := run_append_grows (P := P) (w := w) (ty := ty) (base := none) (sLen := 0) (sCap := 0) (olds := #[]) hu ht2 hi hz q1 ⟨fun _ => rfl, fun _ _ => by simp [Builtin.firstCells], by simp⟩ (by omega) (by omega) hbytes
          obtain ⟨k1, k2, k3⟩ := arr_ok (vs := #[] ++ news ++ Builtin.zeroCells z.cells (c - (0 + m))) (el := e) (n := m) (sz := te.size) (get := get') r (w' := w.drew.alloc (.cells (#[] ++ news ++ Builtin.zeroCells z.cells (c - (0 + m))) e)) rfl (Below.allocw (.inr rfl) r.base)
            (by simp [hnsz]) (fun i j hi hj => by
              have := hcellEq i j hi hj
              rw [getD_append, if_pos (by simpa using this)]
              simpa using q2 i j hi hj) (cap := c) (by omega) (by
              simp only [Array.size_append, zeroCells_size, hz2, hnsz]
              simp
              rw [← Nat.add_mul]; exact Nat.mul_le_mul_right _ (by omega))
          simp only [Nat.zero_add] at hrun k1 k2 k3
          exact ⟨_, _, _, I, _, _, hrun, h4, k1, k2, k3, Below.allocw (.inr rfl) r.base⟩
      · -- an own slice
        rename_i o off len sz hold0
        clear hold0
        simp only [getL_eq] at h
        split at h
        · rename_i n sz2 get fz hob
          obtain ⟨h3, h4, h5, h6, h7, h8, h9⟩ := h
          simp only [Nat.beq_eq] at h3 h4 h5
          simp only [eqN_eq, leN_eq, addN_eq] at h6 h7 h8
          subst h3 h4 h5 h6
          have hob := getD_obj hob (by simp)
          rw [setL_eq] at h9
          simp only [addN_eq] at h9
          obtain ⟨hfz, hobj⟩ := r.obj o _ hob
          cases hx with | ref _ _ _ _ _ ho hr hlen =>
          obtain ⟨-, hok⟩ := hr len te.size get fz hob rfl
          have hoklen := hok (by omega)
          -- what may hold of the new object
          have hbytes : (len + m) * inf.bytes ≤ 140737488355328 := by
            rw [hi2]
            exact Nat.le_trans (Nat.mul_le_mul h8 h2) (by omega)
          -- the growth: a new block
          have grow : ∀ (base : Option Addr) (sCap : Nat) (olds : Array Value), vx = .slice base len sCap → sCap < len + m → Src P w (.slice base len sCap) len inf.size olds → (∀ i j, i < len → j < te.size → RepD w I (olds.getD (i * te.size + j) undef) (get i j)) →
              StepsV P B (Builtin.append_ #[t, t2] ty #[vx, vy]) w I ι H Q := by
            intro base sCap olds hvx hg hsrc0 hold
            subst hvx
            obtain ⟨c, hc1, hrun⟩ := run_append_grows (P := P) (w := w) (ty := ty) hu ht2 hi hz q1 hsrc0 hg (by omega) hbytes
            have hosz : olds.size = len * te.size := by rw [hsrc0.size, hi1]
            let vs := olds ++ news ++ Builtin.zeroCells z.cells (c - (len + m))
            let w' := w.drew.alloc (.cells vs e)
            have hbl := fun b (h : b < w.heap.size) => (show w'.heap[b]? = w.heap[b]? from heap_alloc_eq w.drew (.cells vs e) b h)
            have hnew : w'.heap[w.heap.size]? = some (.cells vs e) := heap_alloc_new w.drew _
            have hvsz : vs.size = c * te.size := by
              simp only [vs, Array.size_append, zeroCells_size, hz2, hnsz, hosz]
              rw [← Nat.add_mul, ← Nat.add_mul]; congr 1; omega
            have hsz : w.heap.size ≤ w'.heap.size := by show _ ≤ (w.heap.push _).size; simp
            have hsame : Same I w w' := fun b k hk => by unfold World.cell?; rw [hbl b (r.imm b k hk)]
            have hgr : Grow w w' := fun b vs0 el0 fr0 hb => ⟨vs0, el0, fr0, (hbl b (lt_of_heap hb)).trans hb, rfl⟩
            have hmpos : 0 < m ∨ m = 0 := by omega
            let ι' := updι ι o (some w.heap.size)
            have hlm : m = 0 → False := fun hm => by
              rcases hoklen with ⟨b, cap, vs1, el1, fr1, e1, e2, e3, e4, e5⟩ | ⟨e1, e2, e3⟩ | ⟨a, e1, e2, e3⟩
              · cases e2; omega
              · cases e2; omega
              · cases e1; omega
            have g : Goes w w' I I ι ι' H (H.set o (.arr (len + m) te.size (appG len get get') fz)) :=
              { same := hsame, imm := fun _ _ h => h, len := by simp
                ref := fun o' off' len' sz'' v ho' hx' n' sz3 get3 fz3 hh hs3 => by
                  rcases set_cases hh with ⟨rfl, he⟩ | ⟨hne, hh⟩
                  · cases he
                    have := (hx' len te.size get fz hob hs3).1
                    exact ⟨by omega, fun e => (hlm (by omega)).elim⟩
                  · obtain ⟨g1, g2⟩ := hx' n' sz3 get3 fz3 hh hs3
                    exact ⟨g1, fun e => (g2 e).grow hgr (by simp [ι', updι, hne])⟩
                ptr := fun o' cs ho' hh => by
                  rcases set_cases hh with ⟨rfl, he⟩ | ⟨hne, hh⟩
                  · cases he
                  · exact ⟨⟨cs, hh⟩, by simp [ι', updι, hne]⟩
                eptr := fun o' n' sz3 get3 fz3 ho' hh => by
                  rcases set_cases hh with ⟨rfl, he⟩ | ⟨hne, hh⟩
                  · cases he
                    exact ⟨len, get, fz, hob, by omega, fun e => (hlm (by omega)).elim⟩
                  · exact ⟨n', get3, fz3, hh, Nat.le_refl _, fun _ => by simp [ι', updι, hne]⟩
                itr := fun o' s p ho' hh => by
                  rcases set_cases hh with ⟨rfl, he⟩ | ⟨hne, hh⟩
                  · cases he
                  · exact ⟨⟨s, p, hh⟩, by simp [ι', updι, hne]⟩ }
            have hidx : ∀ i j, i < len + m → j < te.size → i * te.size + j < (len + m) * te.size := fun i j hi hj => by
              have : (i + 1) * te.size ≤ (len + m) * te.size := Nat.mul_le_mul_right _ hi
              rw [Nat.add_mul, Nat.one_mul] at this; omega
            have hcm : (len + m) * te.size ≤ c * te.size := Nat.mul_le_mul_right _ hc1
            have hrel : Rel B ι' I w' (H.set o (.arr (len + m) te.size (appG len get get') fz)) := by
              refine r.upd hob hsz g (fun o' hne => by simp [ι', updι, hne]) (fun o' y c hne hy hl hc => ⟨hbl c ((r.obj o' y hy).lt hl hc).2, fun _ h => h⟩) (fun b k hk => Nat.lt_of_lt_of_le (r.imm b k hk) hsz) ?_ (fun o' y c hne hy hl hc e => ?_)
              · refine ⟨by omega, .inl ⟨w.heap.size, vs, e, (0, 0), by simp [ι', updι], r.base, hnew, by omega, fun i j hi hj => ?_, fun k _ hk => ?_, fun k _ => ?_⟩⟩
                · have hlt := hidx i j hi hj
                  simp only [vs]
                  rw [getD_append, if_pos (by simp only [Array.size_append, hosz, hnsz]; rw [← Nat.add_mul]; exact hlt), getD_append]
                  by_cases hil : i < len
                  · have : (i + 1) * te.size ≤ len * te.size := Nat.mul_le_mul_right _ hil
                    rw [Nat.add_mul, Nat.one_mul] at this
                    rw [if_pos (by omega)]
                    simp only [appG_eq, if_pos hil]
                    exact (hold i j hil hj).mono g.same g.imm
                  · have : len * te.size ≤ i * te.size := Nat.mul_le_mul_right _ (by omega)
                    rw [if_neg (by omega)]
                    simp only [appG_eq, if_neg hil]
                    have := (q2 (i - len) j (by omega) hj).mono g.same g.imm
                    rwa [Nat.sub_mul, show i * te.size - len * te.size + j = i * te.size + j - olds.size by omega] at this
                · exact absurd (r.imm _ _ hk) (Nat.lt_irrefl _)
                · unfold World.frozen?; rw [hnew]; simp
              · have := ((r.obj o' y hy).lt hl hc).2
                simp [ι', updι] at e
                omega
            refine ⟨.slice (some ⟨w.heap.size, 0, none⟩) (len + m) c, _, w', I, ι', _, hrun, h9, ?_, hrel, g, Below.allocw (.inr rfl) r.base⟩
            refine .ref _ _ _ _ _ (by simpa using ho) (fun n' sz3 get3 fz3 hh _ => ?_) ⟨_, _, rfl⟩
            rw [List.getElem?_set_self (by simpa using ho)] at hh
            cases hh
            exact ⟨by omega, fun _ => .inl ⟨w.heap.size, c, vs, e, (0, 0), by simp [ι', updι], by simp, hnew, by simp; omega, hc1⟩⟩
          rcases hoklen with ⟨b, cap, vs, el, fr, e1, e2, e3, e4, e5⟩ | ⟨e1, e2, e3⟩ | ⟨a, e1, e2, e3⟩
          · rw [Nat.zero_mul] at e2
            rw [Nat.zero_add] at e4
            subst e2
            rcases hobj with ⟨b', vs', el', fr', g1, g2, g3, g4, g5, g6⟩ | ⟨g1, g2⟩
            · obtain rfl : b = b' := by rw [e1] at g1; exact Option.some.inj g1
              rw [e3] at g3
              cases g3
              by_cases hg : len + m ≤ cap
              · -- in place
                have hroom : len * te.size + news.size ≤ vs.size := by
                  rw [hnsz, ← Nat.add_mul]; exact Nat.le_trans (Nat.mul_le_mul_right _ hg) e4
                have hfzl : fz * te.size ≤ len * te.size := Nat.mul_le_mul_right _ h7
                have hrun := run_append_fits (P := P) (w := w) (ty := ty) (b := b) (o := 0) hu ht2 hi q1 hg (fun j hj => by
                    rw [hi1, cell_of_block e3 (by omega)]; rfl) (fun j hj => by rw [hi1]; exact g6.2 _ (by omega)) q3
                simp only [hi1, Nat.zero_add] at hrun
                have hnl : news.toList.length = news.size := by simp
                obtain ⟨vs', p1, p2, p3⟩ := setCells_heap b news.toList (len * te.size) w vs el fr e3 (by omega)
                have hsame : Same I w (w.setCells b (len * te.size) news.toList) := fun c k hc => by
                  by_cases e : c = b
                  · subst e
                    have hk : ¬ fz * te.size ≤ k := fun h => g6.1 k h hc
                    exact World.cell?_setCells_out c _ _ _ _ (fun _ _ => .inl (show k < len * te.size by omega))
                  · unfold World.cell?; rw [setCells_other _ _ _ _ _ e]
                have hgr := setCells_grow b news.toList (len * te.size) w e3 (by omega)
                have g : Goes w (w.setCells b (len * te.size) news.toList) I I ι ι H (H.set o (.arr (len + m) te.size (appG len get get') fz)) :=
                  { same := hsame, imm := fun _ _ h => h, len := by simp
                    ref := fun o' off' len' sz'' v ho' hx' n' sz3 get3 fz3 hh hs3 => by
                      rcases set_cases hh with ⟨rfl, he⟩ | ⟨hne, hh⟩
                      · cases he
                        obtain ⟨k1, k2⟩ := hx' len te.size get fz hob hs3
                        exact ⟨by omega, fun e => (k2 (by omega)).grow hgr rfl⟩
                      · obtain ⟨k1, k2⟩ := hx' n' sz3 get3 fz3 hh hs3
                        exact ⟨k1, fun e => (k2 e).grow hgr rfl⟩
                    ptr := fun o' cs ho' hh => by
                      rcases set_cases hh with ⟨rfl, he⟩ | ⟨hne, hh⟩
                      · cases he
                      · exact ⟨⟨cs, hh⟩, rfl⟩
                    eptr := fun o' n' sz3 get3 fz3 ho' hh => by
                      rcases set_cases hh with ⟨rfl, he⟩ | ⟨hne, hh⟩
                      · cases he
                        exact ⟨len, get, fz, hob, by omega, fun e => rfl⟩
                      · exact ⟨n', get3, fz3, hh, Nat.le_refl _, fun _ => rfl⟩
                    itr := fun o' s p ho' hh => by
                      rcases set_cases hh with ⟨rfl, he⟩ | ⟨hne, hh⟩
                      · cases he
                      · exact ⟨⟨s, p, hh⟩, rfl⟩ }
                have hrel : Rel B ι I (w.setCells b (len * te.size) news.toList) (H.set o (.arr (len + m) te.size (appG len get get') fz)) := by
                  refine r.upd hob (by rw [setCells_size]; exact Nat.le_refl _) g (fun _ _ => rfl) (fun o' y c hne hy hl hc => ⟨setCells_other _ _ _ _ _ (r.ne hob hy trivial hl e1 hc hne), fun k hk => hk⟩) (fun c k hk => by rw [setCells_size]; exact r.imm c k hk) ?_
                    (fun o' y c hne hy hl hc e => r.ne hob hy trivial hl e1 hc hne (by rw [e1] at e; exact (Option.some.inj e).symm))
                  refine ⟨by omega, .inl ⟨b, vs', el, fr, e1, g2, p1, by rw [p2, Nat.add_mul]; omega, fun i j hi hj => ?_, g6.1, fun k hk => by rw [World.frozen?_setCells]; exact g6.2 k hk⟩⟩
                  rw [p3]
                  by_cases hil : i < len
                  · have : (i + 1) * te.size ≤ len * te.size := Nat.mul_le_mul_right _ hil
                    rw [Nat.add_mul, Nat.one_mul] at this
                    rw [if_neg (by omega)]
                    simp only [appG_eq, if_pos hil]
                    exact (g5 i j hil hj).mono g.same g.imm
                  · have h1' : len * te.size ≤ i * te.size := Nat.mul_le_mul_right _ (by omega)
                    have h2' := hcellEq (i - len) j (by omega) hj
                    rw [Nat.sub_mul] at h2'
                    rw [if_pos (by omega)]
                    simp only [appG_eq, if_neg hil]
                    have := (q2 (i - len) j (by omega) hj).mono g.same g.imm
                    rw [Nat.sub_mul, show i * te.size - len * te.size + j = i * te.size + j - len * te.size by omega] at this
                    simpa [Array.getD_eq_getD_getElem?, List.getD_eq_getElem?_getD] using this
                refine ⟨.slice (some ⟨b, 0, none⟩) (len + m) cap, _, _, I, ι, _, ?_, h9, ?_, hrel, g, setCells_below b g2 _ _ _⟩
                · simpa using hrun
                · refine .ref _ _ _ _ _ (by simpa using ho) (fun n' sz3 get3 fz3 hh _ => ?_) ⟨_, _, rfl⟩
                  rw [List.getElem?_set_self (by simpa using ho)] at hh
                  cases hh
                  exact ⟨by omega, fun _ => .inl ⟨b, cap, vs', el, fr, e1, by simp, p1, by rw [p2]; simpa using e4, hg⟩⟩
              · -- it grows
                have hcell : ∀ k, k < len * te.size → w.cell? ⟨b, k, none⟩ = some (vs.getD k undef) := fun k hk => cell_of_block e3 (by omega)
                have hfirst : ∀ w', w'.heap = w.heap → (Builtin.firstCells inf.size len (.slice (some ⟨b, 0, none⟩) len cap)).run P w' = .ok ((List.range (len * te.size)).map fun k => vs.getD k undef).toArray w' := fun w' hw => by
                  rw [hi1]
                  refine run_firstCells_some (P := P) w' te.size len ⟨b, 0, none⟩ len cap ((List.range (len * te.size)).map fun k => vs.getD k undef) (by simp) (fun j v hj => ?_)
                  have hjl : j < len * te.size := by
                    have := (List.getElem?_eq_some_iff.1 hj).1
                    simpa using this
                  rw [Addr.add_mid, Nat.zero_add]
                  have e : w'.cell? ⟨b, j, none⟩ = w.cell? ⟨b, j, none⟩ := by unfold World.cell?; rw [hw]
                  rw [e, hcell j hjl]
                  simpa [hjl] using hj
                have hsrc0 : Src P w (.slice (some ⟨b, 0, none⟩) len cap) len inf.size ((List.range (len * te.size)).map fun k => vs.getD k undef).toArray := ⟨fun _ => rfl, hfirst, by simp [hi1]⟩
                refine grow (some ⟨b, 0, none⟩) cap _ rfl (by omega) hsrc0 (fun i j hi hj => ?_)
                have hlt : i * te.size + j < len * te.size := by
                  have : (i + 1) * te.size ≤ len * te.size := Nat.mul_le_mul_right _ hi
                  rw [Nat.add_mul, Nat.one_mul] at this; omega
                have e : (((List.range (len * te.size)).map fun k => vs.getD k undef).toArray).getD (i * te.size + j) undef = vs.getD (i * te.size + j) undef := by
                  simp [Array.getD_eq_getD_getElem?, hlt]
                rw [e]; exact g5 i j hi hj
            · rw [g1] at e1; cases e1
          · -- the object has no block yet
            subst e2
            subst e3
            by_cases hm : m = 0
            · subst hm
              have hrun := run_append_none (P := P) (w := w) (ty := ty) (sCap := 0) hu ht2 hi q1 (sLen := 0) (Nat.le_refl _)
              simp only [Nat.add_zero] at h9 hrun
              have g : Goes w w I I ι ι H (H.set o (.arr 0 te.size (appG 0 get get') fz)) := Goes.set (fun _ _ _ => rfl) (fun _ _ h => h) (Grow.refl w) hob ⟨rfl, rfl⟩
              have hrel : Rel B ι I w (H.set o (.arr 0 te.size (appG 0 get get') fz)) := r.upd hob (Nat.le_refl _) g (fun _ _ => rfl) (fun o' y c hne hy hl hc => ⟨rfl, fun k hk => hk⟩) r.imm ⟨by omega, .inr ⟨e1, rfl⟩⟩ (fun o' y c hne hy hl hc e => by rw [e1] at e; cases e)
              refine ⟨_, _, w, I, ι, _, hrun, h9, ?_, hrel, g, .refl _ _⟩
              refine .ref _ _ _ _ _ (by simpa using ho) (fun n' sz3 get3 fz3 hh _ => ?_) ⟨_, _, rfl⟩
              rw [List.getElem?_set_self (by simpa using ho)] at hh
              cases hh
              exact ⟨by omega, fun _ => .inr (.inl ⟨e1, rfl, rfl⟩)⟩
            · exact grow none 0 #[] rfl (by omega) ⟨fun _ => rfl, fun _ _ => by simp [Builtin.firstCells], by simp⟩ (fun i j hi => by omega)
          · exact absurd rfl e3
        · exact h.elim
      · exact h.elim
    · exact h.elim
  · exact h.elim

end Go.VM
