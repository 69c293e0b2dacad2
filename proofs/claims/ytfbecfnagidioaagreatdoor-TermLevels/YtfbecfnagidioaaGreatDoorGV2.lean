/- Part of the proof: VF, VG, VH, VI, VJ, VK, VL. -/
import Derived.Laws.Append
import Derived.Test.YtfbecfnagidioaaGreatDoorGV1
/- An object changes: freezing, stores. -/
set_option linter.unusedSimpArgs false
set_option linter.unusedVariables false
set_option linter.unusedSectionVars false
namespace Go.VM
open Ops
variable [Ops] [Glb] [Lim]

variable {P : Program} {T : Tab} {B : Gd} {ι : Nat → Option Nat} {I : Nat → Nat → Prop} {w : World} {H : AHeap}

theorem getD_obj {H : AHeap} {o : Nat} {x : AObj} (h : H.getD o .dead = x) (hx : x ≠ .dead) : H[o]? = some x := by
  rw [List.getD_eq_getElem?_getD] at h
  cases hy : H[o]? with
  | none => simp [hy] at h; exact absurd h.symm hx
  | some y => simp [hy] at h; rw [h]

/-- An object keeps its kind (and its length). -/
def Like : AObj → AObj → Prop
  | .box _, .box _ => True
  | .arr n sz _ _, .arr n' sz' _ _ => n = n' ∧ sz = sz'
  | .iter _ _, .iter _ _ => True
  | .bld _, .bld _ => True
  | _, _ => False

theorem set_cases {H : AHeap} {o o' : Nat} {x y : AObj} (h : (H.set o x)[o']? = some y) : (o' = o ∧ y = x) ∨ (o' ≠ o ∧ H[o']? = some y) := by
  by_cases e : o' = o
  · subst e
    have hl := (List.getElem?_eq_some_iff.1 h).1
    rw [List.getElem?_set_self (by simpa using hl)] at h
    exact .inl ⟨rfl, (Option.some.inj h).symm⟩
  · rw [List.getElem?_set_ne (Ne.symm e)] at h
    exact .inr ⟨e, h⟩

theorem Goes.set {w' : World} {I' : Nat → Nat → Prop} (hs : Same I w w') (hi : ∀ b k, I b k → I' b k) (hg : Grow w w') {o : Nat} {x x' : AObj} (hx : H[o]? = some x) (hk : Like x x') : Goes w w' I I' ι ι H (H.set o x') where
  same := hs
  imm := hi
  len := by simp
  ref := fun o' off len sz v ho h n sz' get fz h1 h2 => by
    rcases set_cases h1 with ⟨rfl, rfl⟩ | ⟨-, h1⟩
    · cases x <;> simp [Like] at hk
      rename_i n' s' g' f'
      obtain ⟨rfl, rfl⟩ := hk
      obtain ⟨h3, h4⟩ := h n' s' g' f' hx h2
      exact ⟨h3, fun e => (h4 e).grow hg rfl⟩
    · obtain ⟨h3, h4⟩ := h n sz' get fz h1 h2
      exact ⟨h3, fun e => (h4 e).grow hg rfl⟩
  ptr := fun o' cs ho h1 hb => by
    rcases set_cases h1 with ⟨rfl, rfl⟩ | ⟨-, h1⟩
    · refine ⟨⟨x, hx, ?_⟩, rfl⟩
      cases x <;> cases cs <;> first | trivial | exact hb.elim | exact hk.elim
    · exact ⟨⟨_, h1, hb⟩, rfl⟩
  eptr := fun o' n sz get fz ho h1 => by
    rcases set_cases h1 with ⟨rfl, rfl⟩ | ⟨-, h1⟩
    · cases x <;> simp [Like] at hk
      obtain ⟨rfl, rfl⟩ := hk
      exact ⟨_, _, _, hx, Nat.le_refl _, fun _ => rfl⟩
    · exact ⟨_, _, _, h1, Nat.le_refl _, fun _ => rfl⟩
  itr := fun o' s p ho h1 => by
    rcases set_cases h1 with ⟨rfl, rfl⟩ | ⟨-, h1⟩
    · cases x <;> simp [Like] at hk
      exact ⟨⟨_, _, hx⟩, rfl⟩
    · exact ⟨⟨_, _, h1⟩, rfl⟩

theorem Rel.upd {w' : World} {I' : Nat → Nat → Prop} {ι' : Nat → Option Nat} (r : Rel B ι I w H) {o : Nat} {x x' : AObj} (hx : H[o]? = some x) (hsz : w.heap.size ≤ w'.heap.size)
    (g : Goes w w' I I' ι ι' H (H.set o x')) (hι : ∀ o', o' ≠ o → ι' o' = ι o')
    (hb : ∀ o' y c, o' ≠ o → H[o']? = some y → y.live → Own w ι o' y c → w'.heap[c]? = w.heap[c]? ∧ ∀ k, I' c k → I c k)
    (himm : ∀ b k, I' b k → b < w'.heap.size) (hnew : ObjOk B ι' I' w' (H.set o x') o x')
    (hinj : ∀ o' y c, o' ≠ o → H[o']? = some y → y.live → Own w ι o' y c → ¬ Own w' ι' o x' c) (hlow : ∀ b k, B b → I' b k → I b k := by exact fun _ _ _ h => h) : Rel B ι' I' w' (H.set o x') where
  base := fun k hk => Nat.lt_of_lt_of_le (r.base k hk) hsz
  imm := himm
  low := fun b k hb hk => r.low b k hb (hlow b k hb hk)
  glob := g.glob r.glob
  obj := fun o' y hy => by
    rcases set_cases hy with ⟨rfl, rfl⟩ | ⟨e, hy⟩
    · exact hnew
    · by_cases hl : y.live
      · exact (r.obj o' y hy).keep g (hι o' e) (fun b hi => (hb o' y b e hy hl hi).1) (fun b k hi => (hb o' y b e hy hl hi).2 k)
      · cases y <;> first | trivial | exact (hl trivial).elim
  inj := fun o1 o2 y1 y2 c h1 h2 l1 l2 e1 e2 => by
    have old : ∀ o' y, o' ≠ o → H[o']? = some y → y.live → Own w' ι' o' y c → Own w ι o' y c := fun o' y ho hy hl hc =>
      hc.back (hι o' ho) (fun b' hi => (hb o' y b' ho hy hl (.of hi)).1)
    rcases set_cases h1 with ⟨p1, q1⟩ | ⟨p1, k1⟩ <;> rcases set_cases h2 with ⟨p2, q2⟩ | ⟨p2, k2⟩
    · rw [p1, p2]
    · subst p1 q1
      exact absurd e1 (hinj o2 y2 c p2 k2 l2 (old o2 y2 p2 k2 l2 e2))
    · subst p2 q2
      exact absurd e2 (hinj o1 y1 c p1 k1 l1 (old o1 y1 p1 k1 l1 e1))
    · exact r.inj o1 o2 y1 y2 c k1 k2 l1 l2 (old o1 y1 p1 k1 l1 e1) (old o2 y2 p2 k2 l2 e2)

/-- blocks of two live objects are two -/
theorem Rel.ne (r : Rel B ι I w H) {o o' : Nat} {x y : AObj} {b c : Nat} (hx : H[o]? = some x) (hy : H[o']? = some y) (lx : x.live) (ly : y.live) (e : Own w ι o x b) (e' : Own w ι o' y c) (h : o' ≠ o) : c ≠ b := fun ec => by
  subst ec
  exact h (r.inj o' o y x c hy hx ly lx e' e)

/-! ### Freezing -/
/-- a state that goes on without a step of the world -/
def Stay (B : Gd) (w : World) (I : Nat → Nat → Prop) (ι : Nat → Option Nat) (H : AHeap) (I' : Nat → Nat → Prop) (H' : AHeap) : Prop := Rel B ι I' w H' ∧ Goes w w I I' ι ι H H'

theorem freeze_ok (r : Rel B ι I w H) {o n sz : Nat} {get : Nat → Nat → D} {fz : Nat} (hx : H[o]? = some (.arr n sz get fz)) :
    ∃ I', Stay B w I ι H I' (H.set o (.arr n sz get n)) ∧ (∀ b, ι o = some b → ∀ k, k < n * sz → I' b k) := by
  obtain ⟨hfz, hob⟩ := r.obj o _ hx
  rcases hob with ⟨b, vs, el, fr, e1, e2, e3, e4, e5, e6⟩ | ⟨e1, e2⟩
  · refine ⟨fun c k => I c k ∨ (c = b ∧ k < n * sz), ⟨?_, ?_⟩, fun b' hb' k hk => .inr ⟨?_, hk⟩⟩
    · have g : Goes w w I (fun c k => I c k ∨ (c = b ∧ k < n * sz)) ι ι H (H.set o (.arr n sz get n)) := Goes.set (fun _ _ _ => rfl) (fun _ _ h => .inl h) (Grow.refl w) hx ⟨rfl, rfl⟩
      refine r.upd hx (Nat.le_refl _) g (fun _ _ => rfl) (fun o' y c hne hy hl hc => ⟨rfl, fun k hk => ?_⟩) (fun c k hk => ?_) ?_ (fun o' y c hne hy hl hc e => ?_) (fun c k hc hk => hk.resolve_right fun h => absurd hc (by rw [h.1]; omega))
      · exact hk.resolve_right (fun h => r.ne hx hy trivial hl e1 hc hne h.1)
      · rcases hk with hk | ⟨rfl, _⟩
        · exact r.imm c k hk
        · exact lt_of_heap e3
      · refine ⟨Nat.le_refl _, .inl ⟨b, vs, el, fr, e1, e2, e3, e4, fun i j hi hj => (e5 i j hi hj).mono (fun _ _ _ => rfl) (fun _ _ h => .inl h), fun k hk hc => ?_, fun k hk => e6.2 k ?_⟩⟩
        · have : fz * sz ≤ n * sz := Nat.mul_le_mul_right _ hfz
          rcases hc with hc | hc
          · exact e6.1 k (by omega) hc
          · omega
        · have : fz * sz ≤ n * sz := Nat.mul_le_mul_right _ hfz
          omega
      · exact r.ne hx hy trivial hl e1 hc hne (by have e : ι _ = some _ := e; rw [e1] at e; exact (Option.some.inj e).symm)
    · exact Goes.set (fun _ _ _ => rfl) (fun _ _ h => .inl h) (Grow.refl w) hx ⟨rfl, rfl⟩
    · rw [e1] at hb'; exact (Option.some.inj hb').symm
  · refine ⟨I, ⟨?_, Goes.set (fun _ _ _ => rfl) (fun _ _ h => h) (Grow.refl w) hx ⟨rfl, rfl⟩⟩, fun b' hb' => by rw [e1] at hb'; cases hb'⟩
    refine r.upd hx (Nat.le_refl _) (Goes.set (fun _ _ _ => rfl) (fun _ _ h => h) (Grow.refl w) hx ⟨rfl, rfl⟩) (fun _ _ => rfl) (fun o' y c hne hy hl hc => ⟨rfl, fun k hk => hk⟩) r.imm ⟨Nat.le_refl _, .inr ⟨e1, e2⟩⟩ (fun o' y c hne hy hl hc e => by have e : ι _ = some _ := e; rw [e1] at e; cases e)

/-- an own slice reads as data where its cells cannot change -/
theorem ref_data (r : Rel B ι I w H) {o off len sz n : Nat} {get : Nat → Nat → D} {fz : Nat} {v : Value} (hx : H[o]? = some (.arr n sz get fz)) (hv : RepA w I ι H v (.ref o off len sz)) (he : off + len = n)
    (hI : ∀ b, ι o = some b → ∀ k, k < n * sz → I b k) : RepD w I v (.sl len sz (offG off get)) := by
  cases hv with | ref _ _ _ _ _ ho h hlen =>
  obtain ⟨-, hok⟩ := h n sz get fz hx rfl
  rcases hok he with ⟨b, cap, vs, el, fr, h1, rfl, h3, h4, h5⟩ | ⟨h1, rfl, rfl⟩ | ⟨a, rfl, rfl, h⟩
  · obtain ⟨-, hob⟩ := r.obj o _ hx
    rcases hob with ⟨b', vs', el', fr', e1, e2, e3, e4, e5, e6⟩ | ⟨e1, e2⟩
    · obtain rfl : b = b' := by rw [h1] at e1; exact Option.some.inj e1
      have hlt : ∀ i j, i < len → j < sz → off * sz + (i * sz + j) < n * sz := fun i j hi hj => by
        have : (off + i + 1) * sz ≤ n * sz := Nat.mul_le_mul_right _ (by omega)
        simp only [Nat.add_mul, Nat.one_mul] at this
        omega
      refine .sl b (off * sz) len cap sz _ (fun i j => vs'.getD (off * sz + (i * sz + j)) undef) h5 (fun i j hi hj => ⟨hI b h1 _ (hlt i j hi hj), cell_of_block e3 (by have := hlt i j hi hj; omega)⟩) (fun i j hi hj => ?_)
      have := e5 (off + i) j (by omega) hj
      rw [offG_eq]
      rwa [show (off + i) * sz + j = off * sz + (i * sz + j) by rw [Nat.add_mul]; omega] at this
    · rw [e1] at h1; cases h1
  · exact .sl0 _ _ _ _
  · exact .sl0 _ _ _ _

theorem Stay.refl (r : Rel B ι I w H) : Stay B w I ι H I H := ⟨r, .refl _ _ _ _⟩
theorem Stay.trans {I1 I2 : Nat → Nat → Prop} {H1 H2 : AHeap} (h : Stay B w I ι H I1 H1) (k : Stay B w I1 ι H1 I2 H2) : Stay B w I ι H I2 H2 := ⟨k.1, h.2.trans k.2⟩

theorem wdata_ok (r : Rel B ι I w H) {v : Value} {a : A} (hv : RepA w I ι H v a) {K : D → AHeap → Prop} (h : wdata a H K) :
    ∃ I' H' x, Stay B w I ι H I' H' ∧ RepD w I' v x ∧ K x H' := by
  unfold wdata at h
  split at h
  · cases hv with | d _ _ hd => exact ⟨I, H, _, .refl r, hd, h⟩
  · cases hv; exact ⟨I, H, _, .refl r, .sl0 _ _ _ _, h⟩
  · rename_i o off len sz
    simp only [getL_eq] at h
    split at h
    · rename_i n sz' get fz hx
      obtain ⟨h1, h2, h3⟩ := h
      simp only [Nat.beq_eq, eqN_eq, addO_eq] at h1 h2
      subst h1
      have hx := getD_obj hx (by simp)
      obtain ⟨I', hs, hI⟩ := freeze_ok r hx
      rw [setL_eq] at h3
      exact ⟨I', _, _, hs, ref_data hs.1 (n := n) (fz := n) (by rw [List.getElem?_set_self (List.getElem?_eq_some_iff.1 hx).1]) (hv.goes hs.2) h2 hI, h3⟩
    · exact h.elim
  · exact h.elim

theorem wdatas_ok (asx : List A) : ∀ {I : Nat → Nat → Prop} {H : AHeap} (r : Rel B ι I w H) {vs : List Value} (hl : vs.length = asx.length) (hv : ∀ k, k < asx.length → RepA w I ι H (vs.getD k undef) (asx.getD k .undef)) {K : List D → AHeap → Prop} (h : wdatas asx H K),
    ∃ I' H' xs, Stay B w I ι H I' H' ∧ xs.length = asx.length ∧ (∀ k, k < asx.length → RepD w I' (vs.getD k undef) (xs.getD k .nilp)) ∧ K xs H' := by
  induction asx with
  | nil =>
    intro I H r vs hl hv K h
    exact ⟨I, H, [], .refl r, rfl, fun k hk => absurd hk (by simp), h⟩
  | cons a asx ih =>
    intro I H r vs hl hv K h
    cases vs with
    | nil => simp at hl
    | cons v vs =>
      simp only [wdatas] at h
      obtain ⟨I1, H1, x, s1, d1, h1⟩ := wdata_ok r (by simpa using hv 0 (by simp)) h
      obtain ⟨I2, H2, xs, s2, l2, d2, h2⟩ := ih s1.1 (vs := vs) (by simpa using hl) (fun k hk => by
        have := hv (k + 1) (by simpa using hk)
        simpa using this.goes s1.2) h1
      refine ⟨I2, H2, x :: xs, s1.trans s2, by simp [l2], fun k hk => ?_, h2⟩
      cases k with
      | zero => simpa using d1.mono s2.2.same s2.2.imm
      | succ k => simpa using d2 k (by simpa using hk)

/-! ### Stores -/
theorem setCells_heap (b : Nat) : ∀ (xs : List Value) (o : Nat) (w : World) (vs : Array Value) (el : TypeId) (fr : Nat × Nat), w.heap[b]? = some (.cells vs el fr) → o + xs.length ≤ vs.size →
    ∃ vs', (w.setCells b o xs).heap[b]? = some (.cells vs' el fr) ∧ vs'.size = vs.size ∧ ∀ k, vs'.getD k undef = if o ≤ k ∧ k < o + xs.length then xs.getD (k - o) undef else vs.getD k undef
  | [], o, w, vs, el, fr, h, _ => ⟨vs, h, rfl, fun k => by rw [if_neg (by simp)]⟩
  | x :: xs, o, w, vs, el, fr, h, hl => by
    simp at hl
    have h1 : (w.setCell ⟨b, o, none⟩ x).heap[b]? = some (.cells (vs.setIfInBounds o x) el fr) := by
      simp only [World.setCell, Array.getElem?_modify]
      simp [h]
    obtain ⟨vs', h2, h3, h4⟩ := setCells_heap b xs (o + 1) _ _ el fr h1 (by simp; omega)
    refine ⟨vs', h2, by simpa using h3, fun k => ?_⟩
    rw [h4 k]
    by_cases hk : k = o
    · subst hk
      rw [if_neg (by omega), if_pos (by simp)]
      have hko : k < vs.size := by omega
      simp [Array.getD_eq_getD_getElem?, Array.getElem?_setIfInBounds, hko]
    · by_cases hk2 : o + 1 ≤ k ∧ k < o + 1 + xs.length
      · rw [if_pos hk2, if_pos (by simp; omega)]
        obtain ⟨j, rfl⟩ : ∃ j, k = o + 1 + j := ⟨k - (o + 1), by omega⟩
        rw [show o + 1 + j - (o + 1) = j by omega, show o + 1 + j - o = j + 1 by omega, List.getD_cons_succ]
      · rw [if_neg hk2, if_neg (by simp; omega)]
        simp [Array.getD_eq_getD_getElem?, Array.getElem?_setIfInBounds, Ne.symm hk]

theorem setCells_other (b : Nat) : ∀ (xs : List Value) (o : Nat) (w : World) (c : Nat), c ≠ b → (w.setCells b o xs).heap[c]? = w.heap[c]?
  | [], _, _, _, _ => rfl
  | x :: xs, o, w, c, h => by
    rw [World.setCells, setCells_other b xs (o + 1) _ c h]
    exact Go.RowKit.Below.heap_setCell _ _ _ _ h

theorem setCells_size (b : Nat) : ∀ (xs : List Value) (o : Nat) (w : World), (w.setCells b o xs).heap.size = w.heap.size
  | [], _, _ => rfl
  | x :: xs, o, w => by
    rw [World.setCells, setCells_size b xs (o + 1) _]
    simp [World.setCell]

theorem setCells_below (b : Nat) (hb : ¬ B b) : ∀ (xs : List Value) (o : Nat) (w : World), Below B w (w.setCells b o xs)
  | [], _, w => .refl _ _
  | x :: xs, o, w => ((Below.refl B w).setCell (p := ⟨b, o, none⟩) hb x).trans (setCells_below b hb xs (o + 1) _)

theorem setCells_grow (b : Nat) (xs : List Value) (o : Nat) (w : World) {vs : Array Value} {el : TypeId} {fr : Nat × Nat} (h : w.heap[b]? = some (.cells vs el fr)) (hl : o + xs.length ≤ vs.size) : Grow w (w.setCells b o xs) := by
  intro c vs' el' fr' hc
  by_cases e : c = b
  · subst e
    obtain ⟨vs2, h2, h3, -⟩ := setCells_heap c xs o w vs el fr h hl
    rw [h] at hc
    cases hc
    exact ⟨vs2, el, fr, h2, h3⟩
  · exact ⟨vs', el', fr', by rw [setCells_other b xs o w c e]; exact hc, rfl⟩

/-- the world's step of a store -/
theorem run_store_ok {t : Nat} {ti : TI} (hti : TIOk P t ti) {v : Value} {b o : Nat} {vs : Array Value} {el : TypeId} {fr : Nat × Nat} (h : w.heap[b]? = some (.cells vs el fr)) (hl : o + v.cells.size ≤ vs.size) (hs : v.cells.size = ti.size)
    (hf : ∀ k, k < v.cells.size → w.frozen? ⟨b, o + k, none⟩ = false) (h1 : ∀ k, k < v.cells.size → (v.cells.getD k undef).oneCell' = true) :
    (Instr.storeAt t (.pointer (some ⟨b, o, none⟩)) v).run P w = .ok () (w.setCells b o v.cells.toList) := by
  have := run_storeCells_cells (P := P) b o v.cells.toList 0 w (fun j hj => by
      rw [Nat.add_zero, cell_of_block h (by simp at hj; omega)]; rfl) (fun j hj => by rw [Nat.add_zero]; exact hf j (by simpa using hj))
    (fun x hx => by
      obtain ⟨k, hk, rfl⟩ := List.getElem_of_mem hx
      have := h1 k (by simpa using hk)
      simp at hk
      simpa [Array.getD_eq_getD_getElem?, hk] using this)
  simp only [Nat.add_zero] at this
  simp [Instr.storeAt, Instr.sureAddr, storeVar, Sem.run_bind, hti.sizeOf w, hs, this]

theorem wstore_ok (hT : TabOk P T) {t : Nat} {p x : A} {vp vx : Value} {K : AHeap → Prop} (r : Rel B ι I w H) (hp : RepA w I ι H vp p) (hx : RepA w I ι H vx x) (h : wstore T t p x H K) :
    ∃ w' I' H', (Instr.storeAt t vp vx).run P w = .ok () w' ∧ K H' ∧ Rel B ι I' w' H' ∧ Goes w w' I I' ι ι H H' ∧ Below B w w' := by
  unfold wstore at h
  split at h
  · exact h.elim
  rename_i ti hti
  have hti := hT.ti _ _ hti
  obtain ⟨hsz, hlf, h⟩ := h
  obtain ⟨hcl, hcr⟩ := rep_cells hx hlf
  have hsz : x.cells.length = ti.size := by simpa [lenL_eq] using hsz
  split at h
  · rename_i o off
    simp only [getL_eq] at h
    split at h
    · rename_i cs hcs
      obtain ⟨h1, h2⟩ := h
      simp only [Nat.ble_eq, lenL_eq] at h1
      have hcs := getD_obj hcs (by simp)
      obtain ⟨b, vs, el, fr, e1, e2, e3, e4, e5, e6⟩ := r.obj o _ hcs
      cases hp with | ptr _ _ _ ho hq _ =>
      obtain ⟨b', e1', rfl⟩ := hq _ hcs trivial
      obtain rfl : b = b' := by rw [e1] at e1'; exact Option.some.inj e1'
      have hrun := run_store_ok hti (v := vx) (b := b) (o := off) e3 (by omega) (by omega) (fun k hk => e6.2 _ (Nat.zero_le _)) (fun k hk => (hcr k (by omega)).2)
      have hlen : vx.cells.toList.length = x.cells.length := by simpa using hcl
      obtain ⟨vs', g1, g2, g3⟩ := setCells_heap b vx.cells.toList off w vs el fr e3 (by omega)
      have hsame : Same I w (w.setCells b off vx.cells.toList) := fun c k hc => by
        have : c ≠ b := fun e => by subst e; exact e6.1 k (Nat.zero_le _) hc
        unfold World.cell?; rw [setCells_other _ _ _ _ _ this]
      have g : Goes w (w.setCells b off vx.cells.toList) I I ι ι H (H.set o (.box (overL cs off x.cells))) := Goes.set hsame (fun _ _ h => h) (setCells_grow b _ _ w e3 (by omega)) hcs trivial
      rw [setL_eq] at h2
      refine ⟨_, I, _, hrun, h2, ?_, g, setCells_below b e2 _ _ _⟩
      refine r.upd hcs (by rw [setCells_size]; exact Nat.le_refl _) g (fun _ _ => rfl) (fun o' y c hne hy hl hc => ⟨setCells_other _ _ _ _ _ (r.ne hcs hy trivial hl e1 hc hne), fun k hk => hk⟩) (fun c k hk => by rw [setCells_size]; exact r.imm c k hk) ?_
        (fun o' y c hne hy hl hc e => r.ne hcs hy trivial hl e1 hc hne (by have e : ι _ = some _ := e; rw [e1] at e; exact (Option.some.inj e).symm))
      refine ⟨b, vs', el, fr, e1, e2, g1, by rw [g2, overL_length]; exact e4, fun k hk => ?_, e6.1, fun k hk => ?_⟩
      · rw [overL_length] at hk
        rw [g3 k, overL_getD _ _ _ _ _ (by omega)]
        rw [hlen]
        by_cases hc : off ≤ k ∧ k < off + x.cells.length
        · rw [if_pos hc, if_pos hc]
          have := (hcr (k - off) (by omega)).1.goes g
          simpa [Array.getD_eq_getD_getElem?, List.getD_eq_getElem?_getD] using this
        · rw [if_neg hc, if_neg hc]
          exact (e5 k hk).goes g
      · rw [World.frozen?_setCells]; exact e6.2 k hk
    · exact h.elim
  · rename_i o i j len
    have hvl : vx.cells.toList.length = x.cells.length := by simpa using hcl
    obtain ⟨I1, H1, xs, s1, l1, d1, h⟩ := wdatas_ok x.cells r (vs := vx.cells.toList) hvl (fun k hk => by
      have := (hcr k hk).1
      simpa [Array.getD_eq_getD_getElem?, List.getD_eq_getElem?_getD] using this) h
    simp only [getL_eq] at h
    split at h
    · rename_i n sz get fz hcs
      obtain ⟨h0, h1, h2, h3, h4⟩ := h
      simp only [Nat.ble_eq, eqN_eq, leN_eq, ltN_eq] at h0 h1 h2 h3
      have hcs := getD_obj hcs (by simp)
      have r1 := s1.1
      obtain ⟨hfz, hob⟩ := r1.obj o _ hcs
      cases (hp.goes s1.2) with | eptr _ _ _ _ _ ho hq _ =>
      obtain ⟨b', e1', rfl⟩ := (hq n sz get fz hcs).2 h0 h3
      rcases hob with ⟨b, vs, el, fr, e1, e2, e3, e4, e5, e6⟩ | ⟨e1, e2⟩
      · obtain rfl : b = b' := by rw [e1] at e1'; exact Option.some.inj e1'
        have hrow : i * sz + sz ≤ n * sz := by
          have : (i + 1) * sz ≤ n * sz := Nat.mul_le_mul_right _ h3
          rw [Nat.add_mul] at this; omega
        have hfzi : fz * sz ≤ i * sz := Nat.mul_le_mul_right _ h2
        have hrun := run_store_ok hti (v := vx) (b := b) (o := i * sz + j) e3 (by omega) (by omega) (fun k hk => e6.2 _ (by omega)) (fun k hk => (hcr k (by omega)).2)
        obtain ⟨vs', g1, g2, g3⟩ := setCells_heap b vx.cells.toList (i * sz + j) w vs el fr e3 (by omega)
        have hsame : Same I1 w (w.setCells b (i * sz + j) vx.cells.toList) := fun c k hc => by
          by_cases e : c = b
          · subst e
            have hk : ¬ fz * sz ≤ k := fun h => e6.1 k h hc
            exact World.cell?_setCells_out c _ _ _ _ (fun _ _ => .inl (show k < i * sz + j by omega))
          · unfold World.cell?; rw [setCells_other _ _ _ _ _ e]
        have g : Goes w (w.setCells b (i * sz + j) vx.cells.toList) I1 I1 ι ι H1 (H1.set o (.arr n sz (updsG get i j xs) fz)) := Goes.set hsame (fun _ _ h => h) (setCells_grow b _ _ w e3 (by omega)) hcs ⟨rfl, rfl⟩
        rw [setL_eq] at h4
        refine ⟨_, I1, _, hrun, h4, ?_, s1.2.trans g, setCells_below b e2 _ _ _⟩
        refine r1.upd hcs (by rw [setCells_size]; exact Nat.le_refl _) g (fun _ _ => rfl) (fun o' y c hne hy hl hc => ⟨setCells_other _ _ _ _ _ (r1.ne hcs hy trivial hl e1 hc hne), fun k hk => hk⟩) (fun c k hk => by rw [setCells_size]; exact r1.imm c k hk) ?_
          (fun o' y c hne hy hl hc e => r1.ne hcs hy trivial hl e1 hc hne (by have e : ι _ = some _ := e; rw [e1] at e; exact (Option.some.inj e).symm))
        refine ⟨hfz, .inl ⟨b, vs', el, fr, e1, e2, g1, by omega, fun i' j' hi' hj' => ?_, e6.1, fun k hk => ?_⟩⟩
        · rw [g3]
          have hupd : ∀ (xs : List D) (g : Nat → Nat → D) (j : Nat), updsG g i j xs i' j' = if i' = i ∧ j ≤ j' ∧ j' < j + xs.length then xs.getD (j' - j) .nilp else g i' j' := by
            intro xs
            induction xs with
            | nil => intro g j; rw [if_neg (by simp <;> omega)]; rfl
            | cons x xs ih =>
              intro g j
              rw [updsG, ih]
              by_cases c1 : i' = i ∧ j + 1 ≤ j' ∧ j' < j + 1 + xs.length
              · rw [if_pos c1, if_pos (by simp; omega)]
                obtain ⟨q, rfl⟩ : ∃ q, j' = j + 1 + q := ⟨j' - (j + 1), by omega⟩
                rw [show j + 1 + q - (j + 1) = q by omega, show j + 1 + q - j = q + 1 by omega, List.getD_cons_succ]
              · rw [if_neg c1]
                by_cases c2 : i' = i ∧ j' = j
                · obtain ⟨rfl, rfl⟩ := c2
                  rw [if_pos (by simp)]
                  simp [updG_eq]
                · rw [if_neg (by simp; omega)]
                  simp only [updG_eq, if_neg c2]
          rw [hupd]
          by_cases hi : i' = i
          · subst hi
            by_cases hc : j ≤ j' ∧ j' < j + xs.length
            · rw [if_pos (by omega), if_pos ⟨rfl, hc⟩]
              have := (d1 (j' - j) (by omega)).mono g.same g.imm
              rwa [show i' * sz + j' - (i' * sz + j) = j' - j by omega]
            · rw [if_neg (by omega), if_neg (by simp; omega)]
              exact (e5 i' j' hi' hj').mono g.same g.imm
          · have hap : i' * sz + sz ≤ i * sz ∨ i * sz + sz ≤ i' * sz := by
              rcases Nat.lt_or_gt_of_ne hi with h | h
              · left
                have : (i' + 1) * sz ≤ i * sz := Nat.mul_le_mul_right _ h
                rw [Nat.add_mul] at this; omega
              · right
                have : (i + 1) * sz ≤ i' * sz := Nat.mul_le_mul_right _ h
                rw [Nat.add_mul] at this; omega
            rw [if_neg (by omega), if_neg (by simp [hi])]
            exact (e5 i' j' hi' hj').mono g.same g.imm
        · rw [World.frozen?_setCells]; exact e6.2 k hk
      · omega
    · exact h.elim
  · exact h.elim

end Go.VM

/- The other operations. -/
set_option linter.unusedSimpArgs false
set_option linter.unusedVariables false
set_option linter.unusedSectionVars false
namespace Go.VM
open Ops
variable [Ops] [Glb] [Lim]

variable {P : Program} {T : Tab} {B : Gd} {ι : Nat → Option Nat} {I : Nat → Nat → Prop} {w : World} {H : AHeap}

theorem windexAddr_ok (hT : TabOk P T) {t : Nat} {x i : A} {vx vi : Value} {Q : A → Prop} (r : Rel B ι I w H) (hx : RepA w I ι H vx x) (hi : RepA w I ι H vi i) (h : windexAddr T t x i H Q) :
    StepsV P B (Instr.indexAt t vx vi) w I ι H (fun a H' => Q a ∧ H' = H) := by
  unfold windexAddr at h
  split at h
  · rename_i e _ _ _ k n hti
    obtain ⟨d, hd, hu⟩ := (hT.ti _ _ hti).underlying
    obtain rfl := kindOf_slice hd
    obtain rfl := rep_int hi
    split at h
    · rename_i te hte
      have hsz := (hT.ti _ _ hte).sizeOf w
      split at h
      · rename_i len sz get
        obtain ⟨h1, h2, h3, h4⟩ := h
        simp only [Nat.beq_eq] at h3
        simp only [leP_eq, ltP_eq, nI_eq, decide_eq_true_eq] at h1 h2
        cases hx with | d _ _ hx =>
        cases hx with
        | sl0 a cap => exact absurd h2 (by simp; omega)
        | sl b o _ cap _ _ vals hl hc hr =>
          have hn : n.toNat < len := by omega
          have hq : 0 ≤ n ∧ n < (len : Int) := ⟨h1, h2⟩
          refine .pure r (v := .pointer (some ⟨b, o + n.toNat * sz + 0, none⟩)) ?_ (.iptr b (o + n.toNat * sz) get (natOf n) 0 sz (fun q => vals n.toNat q) (fun q hq => ?_) (fun q hq => ?_)) ⟨h4, rfl⟩
          · simp [Instr.indexAt, asIntOf, hu, hq, hsz, Addr.add_mid, h3]
          · have := hc n.toNat q hn hq
            rwa [← Nat.add_assoc] at this
          · have := hr n.toNat q hn hq
            simpa [natOf_eq] using this
      · rename_i o off len sz
        simp only [getL_eq] at h
        split at h
        · rename_i m sz' get fz hob
          obtain ⟨h1, h2, h3, h5, h6, h4⟩ := h
          simp only [Nat.beq_eq] at h3 h5
          simp only [leP_eq, ltP_eq, nI_eq, decide_eq_true_eq] at h1 h2
          simp only [eqN_eq, addO_eq] at h6
          have hob := getD_obj hob (by simp)
          have hq : 0 ≤ n ∧ n < (len : Int) := ⟨h1, h2⟩
          cases hx with | ref _ _ _ _ _ ho hr hlen =>
          obtain ⟨-, hok⟩ := hr m sz' get fz hob h5.symm
          rcases hok h6 with ⟨b, cap, vs, el, fr, e1, rfl, e3, e4, e5⟩ | ⟨-, -, e⟩ | ⟨_, -, e, -⟩
          · refine .pure r (v := .pointer (some ⟨b, off * sz + n.toNat * sz, none⟩)) (by simp [Instr.indexAt, asIntOf, hu, hq, hsz, Addr.add_mid, h3]) (.eptr _ _ _ _ _ ho (fun n' sz2 get2 fz2 hob2 => ?_) ⟨_, rfl⟩) ⟨h4, rfl⟩
            rw [hob] at hob2
            cases hob2
            simp only [addO_eq]
            refine ⟨by omega, fun _ _ => ⟨b, e1, ?_⟩⟩
            simp only [natOf_eq, Nat.add_zero]
            rw [← h5, Nat.add_mul]
          · omega
          · omega
        · exact h.elim
      · exact h.elim
    · exact h.elim
  · rename_i len e _ _ _ k n hti
    obtain ⟨d, hd, hu⟩ := (hT.ti _ _ hti).underlying
    obtain rfl := kindOf_array hd
    obtain rfl := rep_int hi
    split at h
    · rename_i te hte
      have hsz := (hT.ti _ _ hte).sizeOf w
      split at h
      · rename_i m
        have hrun : ∀ a, m < len → (Instr.indexAt t (.pointer (some a)) (.int k (Int.ofNat m))).run P w = .ok (.pointer (some (a.add (m * te.size)))) w := fun a hm => by
          have hq : (0 : Int) ≤ Int.ofNat m ∧ Int.ofNat m < (len : Int) := ⟨Int.natCast_nonneg _, Int.ofNat_lt.2 hm⟩
          simp [Instr.indexAt, asIntOf, hu, Instr.sureAddr, hsz]
          omega
        split at h
        · rename_i o q
          obtain ⟨h1, h2⟩ := h
          simp only [Nat.blt_eq] at h1
          cases hx with | ptr _ _ _ ho hq hv =>
          obtain ⟨a, rfl⟩ := hv
          refine .pure r (hrun a h1) (.ptr _ _ _ ho (fun y hy hby => ?_) ⟨_, rfl⟩) ⟨h2, rfl⟩
          obtain ⟨b, e1, e2⟩ := hq y hy hby
          cases e2
          exact ⟨b, e1, by rw [Addr.add_mid]⟩
        · rename_i o i j l
          obtain ⟨h1, h2⟩ := h
          simp only [Nat.blt_eq] at h1
          cases hx with | eptr _ _ _ _ _ ho hq hv =>
          obtain ⟨a, rfl⟩ := hv
          refine .pure r (hrun a h1) (.eptr _ _ _ _ _ ho (fun n sz get fz hy => ?_) ⟨_, rfl⟩) ⟨h2, rfl⟩
          obtain ⟨k1, k2⟩ := hq n sz get fz hy
          refine ⟨k1, fun e3 e4 => ?_⟩
          obtain ⟨b, e1, e2⟩ := k2 e3 e4
          cases e2
          exact ⟨b, e1, by rw [Addr.add_mid, Nat.add_assoc]⟩
        · rename_i g i j sz
          obtain ⟨h1, h2⟩ := h
          simp only [Nat.blt_eq] at h1
          cases hx with | iptr b o _ _ _ _ vals hc hr =>
          refine .pure r (hrun _ h1) ?_ ⟨h2, rfl⟩
          rw [Addr.add_mid, Nat.add_assoc]
          exact .iptr b o g i _ sz vals hc hr
        · exact h.elim
      · exact h.elim
    · exact h.elim
  · exact h.elim

theorem part_ok {t : Nat} {ti : TI} (hti : TIOk P t ti) {vs : List Value} {cs : List A} (hl : vs.length = cs.length) (hc : ∀ k, k < cs.length → RepA w I ι H (vs.getD k undef) (cs.getD k .undef)) {off : Nat} (ho : off + ti.size ≤ cs.length) (h1 : 1 ≤ ti.size) :
    ∃ v, (part t vs.toArray off).run P w = .ok v w ∧ RepA w I ι H v (if ti.kind.isAgg then .agg ((cs.drop off).take ti.size) else cs.getD off .undef) := by
  by_cases ha : ti.kind.isAgg = true
  · refine ⟨.agg (vs.toArray.extract off (off + ti.size)), by simp [part, hti.isAgg w, ha, hti.sizeOf w], ?_⟩
    rw [if_pos ha]
    have e : vs.toArray.extract off (off + ti.size) = ((vs.drop off).take ti.size).toArray := by
      rw [List.extract_toArray, List.extract_eq_take_drop, Nat.add_sub_cancel_left]
    rw [e]
    refine .agg _ _ (by simp; omega) (fun k hk => ?_)
    have hk' : k < ti.size := by simp at hk; omega
    rw [getD_drop_take _ _ _ _ _ hk', getD_drop_take _ _ _ _ _ hk']
    exact hc (off + k) (by omega)
  · have hlt : off < vs.length := by omega
    refine ⟨vs.getD off undef, ?_, ?_⟩
    · simp [part, hti.isAgg w, ha, List.getD_eq_getElem?_getD, List.getElem?_eq_getElem hlt]
    · rw [if_neg ha]; exact hc off (by omega)

theorem windex_ok (hT : TabOk P T) {t : Nat} {x i : A} {vx vi : Value} {Q : A → Prop} (r : Rel B ι I w H) (hx : RepA w I ι H vx x) (hi : RepA w I ι H vi i) (h : windex T t x i Q) :
    StepsV P B (Instr.index t vx vi) w I ι H (fun a H' => Q a ∧ H' = H) := by
  unfold windex at h
  split at h
  · rename_i s k n
    split at h
    · rename_i hti
      obtain ⟨d, hd, hu⟩ := (hT.ti _ _ hti).underlying
      obtain rfl := kindOf_string hd
      obtain rfl := rep_int hi
      obtain rfl := rep_str hx
      obtain ⟨h1, h2, h3⟩ := h
      simp only [leP_eq, ltP_eq, lenS_eq, decide_eq_true_eq] at h1 h2
      refine .pure r (v := .int .u8 (bt s n)) ?_ (.d _ _ (.int _ _)) ⟨h3, rfl⟩
      have hlt : n.toNat < s.size := by omega
      have hb : s[n.toNat]? = some s[n.toNat] := by rw [getElem?_pos s n.toNat hlt]
      have hbt : bt s n = (s[n.toNat].toNat : Int) := by
        rw [bt_eq]
        have : s.data.toList.getD n.toNat 0 = s[n.toNat] := by
          simp [List.getD_eq_getElem?_getD, getElem?_pos, hlt, ByteArray.getElem_eq_getElem_data]
        rw [this]
      simp [Instr.index, asIntOf, hu, h1, hb, hbt]
    · exact h.elim
  · rename_i cs k n
    split at h
    · rename_i len e _ _ _ hti
      obtain ⟨d, hd, hu⟩ := (hT.ti _ _ hti).underlying
      obtain rfl := kindOf_array hd
      obtain rfl := rep_int hi
      obtain ⟨h1, h2, h3⟩ := h
      simp only [leP_eq, ltP_eq, nI_eq, decide_eq_true_eq] at h1 h2
      split at h3
      · rename_i te hte
        obtain ⟨i, hi, h4, h5, h6⟩ := h3
        simp only [nI_eq] at hi
        simp only [Nat.ble_eq, lenL_eq] at h4 h5
        subst hi
        obtain ⟨vs, rfl, l1, l2⟩ := rep_agg hx
        obtain ⟨v, hv1, hv2⟩ := part_ok (hT.ti _ _ hte) l1 l2 h4 h5
        rw [takeL_eq, dropL_eq, getL_eq] at h6
        have hq : (0 : Int) ≤ i ∧ (i : Int) < (len : Int) := ⟨h1, h2⟩
        refine .pure r (v := v) ?_ hv2 ⟨h6, rfl⟩
        simp [Instr.index, asIntOf, hu, hq, (hT.ti _ _ hte).sizeOf w, hv1]
        exact fun h => absurd h2 (by omega)
      · exact h3.elim
    · exact h.elim
  · exact h.elim

theorem fieldOf_ok (hT : TabOk P T) {t f : Nat} {off : Nat} {ti : TI} (h : fieldOf T t f = some (off, ti)) :
    ∃ (fs : Array Field) (fd : Field), (∀ w, (underlying t).run P w = .ok (.struct fs) w) ∧ fs[f]? = some fd ∧ fd.offset = off ∧ TIOk P fd.type ti := by
  unfold fieldOf at h
  split at h
  · rename_i fs _ _ _ hti
    obtain ⟨d, hd, hu⟩ := (hT.ti _ _ hti).underlying
    obtain ⟨fa, rfl, hfa⟩ := kindOf_struct hd
    rw [getL_eq] at h
    split at h
    · rename_i off' ft hget
      split at h
      · rename_i ti' hft
        cases h
        rw [List.getD_eq_getElem?_getD, List.getElem?_map] at hget
        cases hfs : fs[f]? with
        | none => simp [hfs] at hget
        | some p =>
          simp [hfs] at hget
          subst hget
          rw [← hfa, List.getElem?_map] at hfs
          cases hq : fa.toList[f]? with
          | none => simp [hq] at hfs
          | some fd =>
            simp [hq] at hfs
            exact ⟨fa, fd, hu, by simpa using hq, hfs.1, by rw [hfs.2]; exact hT.ti _ _ hft⟩
      · cases h
    · cases h
  · cases h

theorem wfieldAddr_ok (hT : TabOk P T) {t f : Nat} {x : A} {vx : Value} {Q : A → Prop} (r : Rel B ι I w H) (hx : RepA w I ι H vx x) (h : wfieldAddr T t f x Q) :
    StepsV P B (Instr.fieldAt t vx f) w I ι H (fun a H' => Q a ∧ H' = H) := by
  unfold wfieldAddr at h
  split at h
  · rename_i off ti hf
    obtain ⟨fs, fd, hu, h1, h2, h3⟩ := fieldOf_ok hT hf
    obtain ⟨hsz, h⟩ := h
    simp only [Nat.ble_eq] at hsz
    have hz : ¬ ti.size = 0 := by omega
    have hrun : ∀ b o, (Instr.fieldAt t (.pointer (some ⟨b, o, none⟩)) f).run P w = .ok (.pointer (some ⟨b, o + off, none⟩)) w := fun b o => by
      simp [Instr.fieldAt, hu, h1, Instr.sureAddr, fieldPlace, h3.sizeOf w, hz, Addr.add_mid, h2]
    have hrun' : ∀ a, ∃ a', (Instr.fieldAt t (.pointer (some a)) f).run P w = .ok (.pointer (some a')) w := fun a => by
      simp [Instr.fieldAt, hu, h1, Instr.sureAddr, fieldPlace, h3.sizeOf w, hz]
    split at h
    · rename_i o k
      cases hx with | ptr _ _ _ ho hq hv =>
      obtain ⟨a, rfl⟩ := hv
      obtain ⟨a', ha'⟩ := hrun' a
      refine .pure r (v := .pointer (some a')) ha' (.ptr _ _ _ ho (fun cs hcs hbx => ?_) ⟨_, rfl⟩) ⟨h, rfl⟩
      obtain ⟨b, e1, e2⟩ := hq cs hcs hbx
      cases e2
      rw [hrun] at ha'
      cases ha'
      exact ⟨b, e1, rfl⟩
    · rename_i o i j len
      cases hx with | eptr _ _ _ _ _ ho hq hv =>
      obtain ⟨a, rfl⟩ := hv
      obtain ⟨a', ha'⟩ := hrun' a
      refine .pure r (v := .pointer (some a')) ha' (.eptr _ _ _ _ _ ho (fun n sz get fz hcs => ?_) ⟨_, rfl⟩) ⟨h, rfl⟩
      obtain ⟨h1, h2⟩ := hq n sz get fz hcs
      refine ⟨h1, fun e1 e2 => ?_⟩
      obtain ⟨b, e1, e2⟩ := h2 e1 e2
      cases e2
      rw [hrun] at ha'
      cases ha'
      exact ⟨b, e1, by rw [Nat.add_assoc]⟩
    · rename_i get i j sz
      cases hx with | iptr b o _ _ _ _ vals hc hr =>
      refine .pure r (hrun b (o + j)) ?_ ⟨h, rfl⟩
      rw [Nat.add_assoc]
      exact .iptr b o get i (j + off) sz vals hc hr
    · exact h.elim
  · exact h.elim

theorem wfield_ok (hT : TabOk P T) {t f : Nat} {x : A} {vx : Value} {Q : A → Prop} (r : Rel B ι I w H) (hx : RepA w I ι H vx x) (h : wfield T t f x Q) :
    StepsV P B (Instr.field t vx f) w I ι H (fun a H' => Q a ∧ H' = H) := by
  unfold wfield at h
  split at h
  · rename_i off ti cs hf
    obtain ⟨fs, fd, hu, h1, h2, h3⟩ := fieldOf_ok hT hf
    obtain ⟨h4, h5, h6⟩ := h
    simp only [Nat.ble_eq, lenL_eq] at h4 h5
    obtain ⟨vs, rfl, l1, l2⟩ := rep_agg hx
    obtain ⟨v, hv1, hv2⟩ := part_ok h3 l1 l2 h4 h5
    rw [takeL_eq, dropL_eq, getL_eq] at h6
    exact .pure r (v := v) (by simp [Instr.field, hu, h1, asAgg, h2, hv1]) hv2 ⟨h6, rfl⟩
  · exact h.elim

theorem wconv_ok (hT : TabOk P T) {src dst : Nat} {x : A} {vx : Value} {Q : A → Prop} (r : Rel B ι I w H) (hx : RepA w I ι H vx x) (h : wconv T src dst x Q) :
    StepsV P B (convert src dst vx) w I ι H (fun a H' => Q a ∧ H' = H) := by
  unfold wconv at h
  split at h
  · rename_i k' _ _ _ k _ _ _ k'' n hs hti
    obtain ⟨d, hd, hu⟩ := (hT.ti _ _ hti).underlying
    obtain rfl := kindOf_int hd
    obtain ⟨d', hd', hu'⟩ := (hT.ti _ _ hs).underlying
    obtain rfl := kindOf_int hd'
    obtain rfl := rep_int hx
    exact .pure r (v := .int k (convK k n)) (by simp [convert, hu, hu', Conv.intToInt, convK_eq]) (.d _ _ (.int _ _)) ⟨h, rfl⟩
  · rename_i s hs hti
    obtain ⟨d, hd, hu⟩ := (hT.ti _ _ hti).underlying
    obtain rfl := kindOf_string hd
    obtain ⟨d', hd', hu'⟩ := (hT.ti _ _ hs).underlying
    obtain rfl := kindOf_string hd'
    obtain rfl := rep_str hx
    exact .pure r (v := .string s) (by simp [convert, hu, hu']) (.d _ _ (.str _)) ⟨h, rfl⟩
  · exact h.elim

theorem wun_ok {op : UnOp} {x : A} {vx : Value} {Q : A → Prop} (r : Rel B ι I w H) (hx : RepA w I ι H vx x) (h : wun op x Q) :
    StepsV P B (Op.unary op vx) w I ι H (fun a H' => Q a ∧ H' = H) := by
  unfold wun at h
  split at h
  · obtain rfl := rep_bool hx
    exact .pure r (by simp [Op.unary]) (.d _ _ (.bool _)) ⟨h, rfl⟩
  · obtain rfl := rep_int hx
    exact .pure r (v := .int _ (subK _ 0 _)) (by simp [Op.unary, Op.intArith, subK_eq]) (.d _ _ (.int _ _)) ⟨h, rfl⟩
  · exact h.elim

theorem max_ok {x y : A} {vx vy : Value} {Q : A → Prop} (r : Rel B ι I w H) (hx : RepA w I ι H vx x) (hy : RepA w I ι H vy y) (h : wmax x y Q) (l : Array TypeId) (t : TypeId) :
    StepsV P B (Builtin.max_ l t #[vx, vy]) w I ι H (fun a H' => Q a ∧ H' = H) := by
  unfold wmax at h
  split at h
  · obtain rfl := rep_int hx
    obtain rfl := rep_int hy
    exact .pure r (v := .int _ (maxI _ _)) (by simp [Builtin.max_, Builtin.max2, maxI_eq]) (.d _ _ (.int _ _)) ⟨h, rfl⟩
  · exact h.elim

theorem min_ok {x y : A} {vx vy : Value} {Q : A → Prop} (r : Rel B ι I w H) (hx : RepA w I ι H vx x) (hy : RepA w I ι H vy y) (h : wmin x y Q) (l : Array TypeId) (t : TypeId) :
    StepsV P B (Builtin.min_ l t #[vx, vy]) w I ι H (fun a H' => Q a ∧ H' = H) := by
  unfold wmin at h
  split at h
  · obtain rfl := rep_int hx
    obtain rfl := rep_int hy
    exact .pure r (v := .int _ (minI _ _)) (by simp [Builtin.min_, Builtin.min2, minI_eq]) (.d _ _ (.int _ _)) ⟨h, rfl⟩
  · exact h.elim

end Go.VM

/- Building, making, slicing, appending. -/
set_option linter.unusedSimpArgs false
set_option linter.unusedVariables false
set_option linter.unusedSectionVars false
namespace Go.VM
open Ops
variable [Ops] [Glb] [Lim]

variable {P : Program} {T : Tab} {B : Gd} {ι : Nat → Option Nat} {I : Nat → Nat → Prop} {w : World} {H : AHeap}

/-! ### append: the runs -/
section run
variable {t t2 ty e : TypeId} {i : TypeInfo} {z : Value} {x : Value} {n : Nat} {news : Array Value}

structure Src (P : Program) (w : World) (x : Value) (n size : Nat) (news : Array Value) : Prop where
  len : ∀ w', (Builtin.lenOf x).run P w' = .ok n w'
  first : ∀ w', w'.heap = w.heap → (Builtin.firstCells size n x).run P w' = .ok news w'
  size : news.size = n * size

theorem run_append_fits (ht : P.underlying t = some (.slice e)) (ht2 : P.underlying t2 = some .string ∨ ∃ e', P.underlying t2 = some (.slice e')) (hi : P.info? e = some i) (hx : Src P w x n i.size news)
    {b o sLen sCap : Nat} (hg : sLen + n ≤ sCap) (hc : ∀ j, j < news.size → (w.cell? ⟨b, o + sLen * i.size + j, none⟩).isSome = true) (hf : ∀ j, j < news.size → w.frozen? ⟨b, o + sLen * i.size + j, none⟩ = false) (h1 : ∀ v ∈ news.toList, v.oneCell' = true) :
    (Builtin.append_ #[t, t2] ty #[.slice (some ⟨b, o, none⟩) sLen sCap, x]).run P w = .ok (.slice (some ⟨b, o, none⟩) (sLen + n) sCap) (w.setCells b (o + sLen * i.size) news.toList) := by
  have hst := run_storeCells_cells (P := P) b (o + sLen * i.size) news.toList 0 w (by simpa using hc) (by simpa using hf) h1
  simp only [Nat.add_zero] at hst
  have hff := hx.first w rfl
  rcases ht2 with hd | ⟨e', hd⟩ <;> simp [Builtin.append_, run_underlying ht, run_underlying hd, sizeOf, typeInfo, hi, hx.len, hg, hff, Addr.add_mid, hst]

theorem run_append_none (ht : P.underlying t = some (.slice e)) (ht2 : P.underlying t2 = some .string ∨ ∃ e', P.underlying t2 = some (.slice e')) (hi : P.info? e = some i) (hx : Src P w x n i.size news)
    {sLen sCap : Nat} (hg : sLen + n ≤ sCap) :
    (Builtin.append_ #[t, t2] ty #[.slice none sLen sCap, x]).run P w = .ok (.slice none (sLen + n) sCap) w := by
  have hff := hx.first w rfl
  rcases ht2 with hd | ⟨e', hd⟩ <;> simp [Builtin.append_, run_underlying ht, run_underlying hd, sizeOf, typeInfo, hi, hx.len, hg, hff]

theorem run_append_grows (ht : P.underlying t = some (.slice e)) (ht2 : P.underlying t2 = some .string ∨ ∃ e', P.underlying t2 = some (.slice e')) (hi : P.info? e = some i) (hz : i.zero = some z) (hx : Src P w x n i.size news)
    {base : Option Addr} {sLen sCap : Nat} {olds : Array Value} (hs : Src P w (.slice base sLen sCap) sLen i.size olds) (hg : sCap < sLen + n) (h63 : ((sLen + n : Nat) : Int) ≤ 9223372036854775807) (hfit : (sLen + n) * i.bytes ≤ 140737488355328) :
    ∃ c, sLen + n ≤ c ∧ (Builtin.append_ #[t, t2] ty #[.slice base sLen sCap, x]).run P w =
      .ok (.slice (some ⟨w.heap.size, 0, none⟩) (sLen + n) c) (w.drew.alloc (.cells (olds ++ news ++ Builtin.zeroCells z.cells (c - (sLen + n))) e)) := by
  have hn : ¬ (sLen + n ≤ sCap) := by omega
  have h63' : ¬ (9223372036854775807 < ((sLen : Int) + (n : Int))) := by omega
  have h48' : ¬ (281474976710656 < Builtin.nextslicecap (sLen + n) sCap * i.bytes) := by have := growslice_fits hg hfit; omega
  have hf := hx.first w.drew rfl
  have hfo := hs.first w.drew rfl
  refine ⟨grownCap w (sLen + n) sCap e, ?_, ?_⟩
  · simp only [grownCap, Question.cut]; omega
  · rcases ht2 with hd | ⟨e', hd⟩ <;> simp [Builtin.append_, run_underlying ht, run_underlying hd, sizeOf, typeInfo, zeroValue, hi, hz, hx.len, hn, h63', h48', Question.forced, hf, hfo, newRow, grownCap]
end run

end Go.VM

/- Slicing, building, making. -/
set_option linter.unusedSimpArgs false
set_option linter.unusedVariables false
set_option linter.unusedSectionVars false
namespace Go.VM
open Ops
variable [Ops] [Glb] [Lim]

variable {P : Program} {T : Tab} {B : Gd} {ι : Nat → Option Nat} {I : Nat → Nat → Prop} {w : World} {H : AHeap}

/-! ### Slicing -/
inductive OptRep (w : World) (I : Nat → Nat → Prop) (ι : Nat → Option Nat) (H : AHeap) : Option Value → Option A → Prop
  | none : OptRep w I ι H .none .none
  | some (v : Value) (a : A) (h : RepA w I ι H v a) : OptRep w I ι H (.some v) (.some a)

def BndLo (lo : Option Value) (l : Int) : Prop := (lo = none ∧ l = 0) ∨ ∃ k, lo = some (.int k l)
def BndHi (hi : Option Value) (n h : Int) : Prop := (hi = none ∧ h = n) ∨ ∃ k, hi = some (.int k h)

theorem run_sliceBounds {b : Bool} {len cap : Nat} {lo hi : Option Value} {l h : Int} (hlo : BndLo lo l) (hhi : BndHi hi len h) (h0 : 0 ≤ l) (h1 : l ≤ h) (h2 : h ≤ cap) :
    (Instr.sliceBounds b len cap lo hi none).run P w = .ok (l.toNat, h.toNat, cap) w := by
  have hh : (0 : Int) ≤ h ∧ h ≤ (cap : Int) := ⟨by omega, h2⟩
  have hl : (0 : Int) ≤ l ∧ l ≤ (h.toNat : Int) := ⟨h0, by omega⟩
  rcases hlo with ⟨rfl, rfl⟩ | ⟨k, rfl⟩ <;> rcases hhi with ⟨rfl, rfl⟩ | ⟨k', rfl⟩
  · simp [Instr.sliceBounds]
  · simp [Instr.sliceBounds, Instr.sliceBound, asIntOf, hh]
  · have hl' : (0 : Int) ≤ l ∧ l ≤ (len : Int) := ⟨h0, h1⟩
    simp [Instr.sliceBounds, Instr.sliceBound, asIntOf, hl']
  · have hm : ¬ max h 0 < l := by omega
    simp [Instr.sliceBounds, Instr.sliceBound, asIntOf, hh, hl, hm]

theorem sliceD_ok (hT : TabOk P T) {t e : Nat} {te : TI} (hu : ∀ w, (underlying t).run P w = .ok (.slice e) w) (hte : T.ti e = some te) {v : Value} {n sz : Nat} {get : Nat → Nat → D} (hv : RepD w I v (.sl n sz get)) (hsz : te.size = sz ∨ n = 0)
    {lo hi : Option Value} {l h : Int} (hlo : BndLo lo l) (hhi : BndHi hi n h) (h0 : 0 ≤ l) (h1 : l ≤ h) (h2 : h ≤ n) :
    ∃ v', (Instr.sliceAt t v lo hi none).run P w = .ok v' w ∧ RepD w I v' (.sl (h.toNat - l.toNat) sz (fun i j => get (l.toNat + i) j)) := by
  have hs := (hT.ti _ _ hte).sizeOf w
  cases hv with
  | sl0 a cap =>
    obtain rfl : l = 0 := by omega
    obtain rfl : h = 0 := by omega
    have := run_sliceBounds (P := P) (w := w) (b := true) (len := 0) (cap := cap) hlo hhi (by omega) (by omega) (by omega)
    refine ⟨_, by simp [Instr.sliceAt, Instr.slice, hu, this, hs]; rfl, ?_⟩
    simp only [Int.toNat_zero, Nat.sub_self]
    exact .sl0 _ _ _ _
  | sl b o _ cap _ _ vals hl hc hr =>
    have := run_sliceBounds (P := P) (w := w) (b := true) (len := n) (cap := cap) hlo hhi h0 h1 (by omega)
    refine ⟨_, by simp [Instr.sliceAt, Instr.slice, hu, this, hs]; rfl, ?_⟩
    by_cases hz : h.toNat - l.toNat = 0
    · rw [hz]; exact .sl0 _ _ _ _
    · have hne : ¬ cap = l.toNat := by omega
      have hszz : te.size = sz := hsz.resolve_right (by omega)
      simp only [hne, if_false, Option.map_some, Addr.add_mid, hszz]
      have hidx : ∀ i j, o + l.toNat * sz + (i * sz + j) = o + ((l.toNat + i) * sz + j) := fun i j => by rw [Nat.add_mul]; omega
      refine .sl b _ _ _ _ _ (fun i j => vals (l.toNat + i) j) (by omega) (fun i j hi hj => ?_) (fun i j hi hj => hr _ _ (by omega) hj)
      rw [hidx]
      exact hc _ _ (by omega) hj

theorem optInt {w : World} {I : Nat → Nat → Prop} {ι : Nat → Option Nat} {H : AHeap} {hi : Option Value} {k : IntKind} {n : Int} (h : OptRep w I ι H hi (some (.d (.int k n)))) : hi = some (.int k n) := by
  cases h with | some v _ h => rw [rep_int h]

theorem wslice_ok (hT : TabOk P T) {t : Nat} {x : A} {lo hi : Option A} {vx : Value} {vlo vhi : Option Value} {Q : A → AHeap → Prop} (r : Rel B ι I w H) (hx : RepA w I ι H vx x) (hlo : OptRep w I ι H vlo lo) (hhi : OptRep w I ι H vhi hi)
    (h : wslice T t x lo hi H Q) : StepsV P B (Instr.sliceAt t vx vlo vhi none) w I ι H Q := by
  unfold wslice at h
  simp only at h
  split at h
  · exact h.elim
  rename_i l hl
  have hbl : BndLo vlo l := by
    split at hl
    · cases hlo; cases hl; exact .inl ⟨rfl, rfl⟩
    · rename_i k n
      cases hl
      exact .inr ⟨k, optInt hlo⟩
    · cases hl
  have hbh : ∀ {k : IntKind} {n : Int} (m : Int), hi = some (.d (.int k n)) → BndHi vhi m n := fun m e => by
    subst e; exact .inr ⟨_, optInt hhi⟩
  have hbn : ∀ m : Int, hi = none → BndHi vhi m m := fun m e => by subst e; cases hhi; exact .inl ⟨rfl, rfl⟩
  have hz : lo = none → l = 0 := fun e => by subst e; simp at hl; exact hl.symm
  split at h
  · -- a string
    rename_i s
    split at h
    · rename_i hti
      obtain ⟨d, hd, hu⟩ := (hT.ti _ _ hti).underlying
      obtain rfl := kindOf_string hd
      obtain rfl := rep_str hx
      split at h
      · obtain ⟨h1, h2, h3⟩ := h
        simp only [leP_eq, lenS_eq, decide_eq_true_eq] at h1 h2
        have := run_sliceBounds (P := P) (w := w) (b := false) (len := s.size) (cap := s.size) hbl (hbn _ rfl) h1 h2 (by omega)
        refine .pure r (v := .string (subS s l (lenS s))) ?_ (.d _ _ (.str _)) h3
        simp [Instr.sliceAt, Instr.slice, hu, this, subS_eq, lenS_eq]
      · rename_i k n
        obtain ⟨h1, h2, h3, h4⟩ := h
        simp only [leP_eq, lenS_eq, decide_eq_true_eq] at h1 h2 h3
        have := run_sliceBounds (P := P) (w := w) (b := false) (len := s.size) (cap := s.size) hbl (hbh _ rfl) h1 h2 (by omega)
        refine .pure r (v := .string (subS s l n)) ?_ (.d _ _ (.str _)) h4
        simp [Instr.sliceAt, Instr.slice, hu, this, subS_eq]
      · exact h.elim
    · exact h.elim
  · -- data
    rename_i n sz get
    split at h
    · rename_i e _ _ _ hti
      obtain ⟨d, hd, hu⟩ := (hT.ti _ _ hti).underlying
      obtain rfl := kindOf_slice hd
      obtain ⟨hs, h⟩ := h
      split at hs
      · rename_i te hte
        simp only [Nat.beq_eq, eqN_eq] at hs
        cases hx with | d _ _ hx =>
        have fin : ∀ {h' : Int} (hb : BndHi vhi n h') (h1 : 0 ≤ l) (h2 : l ≤ h') (h3 : h' ≤ n), Q (.d (.sl (subN (natOf h') (natOf l)) sz (loG lo get l))) H → StepsV P B (Instr.sliceAt t vx vlo vhi none) w I ι H Q := fun {h'} hb h1 h2 h3 hq => by
          obtain ⟨v', g1, g2⟩ := sliceD_ok hT hu hte hx hs hbl hb h1 h2 h3
          refine .pure r g1 (.d _ _ ?_) hq
          have e : loG lo get l = fun i j => get (l.toNat + i) j := by
            clear hq hl hlo
            cases lo with
            | none => obtain rfl := hz rfl; funext i j; simp [loG]
            | some a => funext i j; simp [loG, shG_eq, natOf_eq]
          rw [e]
          simpa [subN_eq, natOf_eq] using g2
        split at h
        · obtain ⟨h1, h2, h3⟩ := h
          simp only [leP_eq, nI_eq, decide_eq_true_eq] at h1 h2
          refine fin (hbn _ rfl) h1 h2 (by omega) ?_
          simpa [natOf_eq] using h3
        · obtain ⟨h1, h2, h3, h4⟩ := h
          simp only [leP_eq, nI_eq, decide_eq_true_eq] at h1 h2 h3
          exact fin (hbh _ rfl) h1 h2 h3 h4
        · exact h.elim
      · exact hs.elim
    · exact h.elim
  · -- an own slice
    rename_i o off len sz
    simp only [getL_eq] at h
    split at h
    · rename_i n sz' get fz hob
      have hob := getD_obj hob (by simp)
      split at h
      · rename_i e _ _ _ hti
        obtain ⟨d, hd, hu⟩ := (hT.ti _ _ hti).underlying
        obtain rfl := kindOf_slice hd
        obtain ⟨hs, hsz, hn, h⟩ := h
        split at hs
        · rename_i te hte
          simp only [Nat.beq_eq] at hs hsz
          simp only [eqN_eq, addO_eq] at hn
          subst hsz
          split at h
          · obtain ⟨h1, h2, h3⟩ := h
            simp only [leP_eq, nI_eq, decide_eq_true_eq] at h1 h2
            cases hx with | ref _ _ _ _ _ ho hr hlen =>
            obtain ⟨a, cap, rfl⟩ := hlen
            obtain ⟨-, hok⟩ := hr n sz get fz hob rfl
            have hcap : len ≤ cap := by
              rcases hok hn with ⟨b, cap', vs, el, fr, e1, e2, e3, e4, e5⟩ | ⟨-, e2, e⟩ | ⟨_, e2, e, -⟩
              · cases e2; exact e5
              · omega
              · omega
            have := run_sliceBounds (P := P) (w := w) (b := true) (len := len) (cap := cap) hbl (hbn _ rfl) h1 h2 (by omega)
            refine .pure r (v := .slice (if cap = l.toNat then a else a.map (·.add (l.toNat * te.size))) (len - l.toNat) (cap - l.toNat)) (by simp [Instr.sliceAt, Instr.slice, hu, this, (hT.ti _ _ hte).sizeOf w]) ?_ h3
            simp only [subN_eq, natOf_eq]
            refine .ref _ _ _ _ _ ho (fun n' sz2 get2 fz2 hob2 _ => ?_) ⟨_, _, rfl⟩
            rw [hob] at hob2
            cases hob2
            simp only [addO_eq]
            refine ⟨by omega, fun _ => ?_⟩
            rcases hok hn with ⟨b, cap', vs, el, fr, e1, e2, e3, e4, e5⟩ | ⟨e1, e2, e⟩ | ⟨a', e2, e, e3⟩
            · cases e2
              by_cases hc : cap = l.toNat
              · by_cases hl0 : l.toNat = 0
                · refine .inl ⟨b, 0, vs, el, fr, e1, ?_, e3, ?_, by omega⟩
                  · rw [if_pos hc, hl0, hc, hl0]; simp
                  · have : (off + cap) * sz = off * sz + cap * sz := Nat.add_mul _ _ _
                    rw [hl0]; simp; omega
                · refine .inr (.inr ⟨some ⟨b, off * sz, none⟩, ?_, by omega, by omega⟩)
                  rw [if_pos hc]
                  have h1 : len - l.toNat = 0 := by omega
                  have h2 : cap - l.toNat = 0 := by omega
                  rw [h1, h2]
              · refine .inl ⟨b, cap - l.toNat, vs, el, fr, e1, ?_, e3, ?_, by omega⟩
                · rw [if_neg hc, Option.map_some, Addr.add_mid, hs, Nat.add_mul]
                · rw [show off + l.toNat + (cap - l.toNat) = off + cap by omega]; exact e4
            · cases e2
              obtain rfl : l = 0 := by omega
              exact .inr (.inl ⟨e1, by simp, by omega⟩)
            · cases e2
              obtain rfl : l = 0 := by omega
              exact .inr (.inr ⟨a, by simp, by omega, by omega⟩)
          · rename_i k h'
            obtain ⟨h1, h2, h3, h4⟩ := h
            simp only [leP_eq, nI_eq, decide_eq_true_eq] at h1 h2 h3
            obtain ⟨I', hs', hI⟩ := freeze_ok r hob
            have hd := ref_data hs'.1 (n := n) (fz := n) (by rw [List.getElem?_set_self (List.getElem?_eq_some_iff.1 hob).1]) (hx.goes hs'.2) hn hI
            obtain ⟨v', g1, g2⟩ := sliceD_ok hT hu hte hd (.inl hs) hbl (hbh _ rfl) h1 h2 h3
            rw [setL_eq] at h4
            refine ⟨v', _, w, I', ι, _, g1, h4, .d _ _ ?_, hs'.1, hs'.2, .refl _ _⟩
            have e : shG get (addO off (natOf l)) = fun i j => offG off get (l.toNat + i) j := by
              funext i j
              simp [shG_eq, natOf_eq, addO_eq, offG_eq, Nat.add_assoc]
            rw [e]
            simpa [subN_eq, natOf_eq] using g2
          · exact h.elim
        · exact hs.elim
      · exact h.elim
    · exact h.elim
  · exact h.elim

end Go.VM

/- Building and making. -/
set_option linter.unusedSimpArgs false
set_option linter.unusedVariables false
set_option linter.unusedSectionVars false
namespace Go.VM
open Ops
variable [Ops] [Glb] [Lim]

variable {P : Program} {T : Tab} {B : Gd} {ι : Nat → Option Nat} {I : Nat → Nat → Prop} {w : World} {H : AHeap}

/-! ### fill -/
theorem foldl_set (off : Nat) : ∀ (l : List Value) (j : Nat) (cs : Array Value), ((l.zipIdx j).foldl (fun cs (p : Value × Nat) => cs.setIfInBounds (off + p.2) p.1) cs).size = cs.size ∧
    ∀ k, ((l.zipIdx j).foldl (fun cs (p : Value × Nat) => cs.setIfInBounds (off + p.2) p.1) cs).getD k undef = if off + j ≤ k ∧ k < off + j + l.length ∧ k < cs.size then l.getD (k - (off + j)) undef else cs.getD k undef
  | [], j, cs => ⟨rfl, fun k => by rw [if_neg (by simp; omega)]; rfl⟩
  | v :: l, j, cs => by
    obtain ⟨h1, h2⟩ := foldl_set off l (j + 1) (cs.setIfInBounds (off + j) v)
    refine ⟨by simpa [List.zipIdx_cons] using h1, fun k => ?_⟩
    rw [List.zipIdx_cons, List.foldl_cons, h2 k]
    simp only [Array.size_setIfInBounds]
    by_cases c1 : off + (j + 1) ≤ k ∧ k < off + (j + 1) + l.length ∧ k < cs.size
    · rw [if_pos c1, if_pos (by simp; omega)]
      rw [show k - (off + j) = (k - (off + (j + 1))) + 1 by omega, List.getD_cons_succ]
    · rw [if_neg c1]
      by_cases c2 : k = off + j
      · subst c2
        by_cases c3 : off + j < cs.size
        · rw [if_pos (by simp; omega)]
          simp [Array.getD_eq_getD_getElem?, Array.getElem?_setIfInBounds, c3]
        · rw [if_neg (by omega)]
          simp [Array.getD_eq_getD_getElem?, Array.getElem?_setIfInBounds, c3]
      · rw [if_neg (by simp; omega)]
        simp [Array.getD_eq_getD_getElem?, Array.getElem?_setIfInBounds, Ne.symm c2]

def RepCs (w : World) (I : Nat → Nat → Prop) (ι : Nat → Option Nat) (H : AHeap) (vs : Array Value) (cs : List A) : Prop :=
  vs.size = cs.length ∧ ∀ k, k < cs.length → RepA w I ι H (vs.getD k undef) (cs.getD k .undef)

theorem fill_ok {place place' : Nat → Option (Nat × Nat)} (hp : ∀ i p, place i = some p → place' i = some p) : ∀ (parts : List (Nat × A)) (vparts : List (Nat × Value)) (hl : vparts.length = parts.length)
    (hr : ∀ k, k < parts.length → (vparts.getD k (0, undef)).1 = (parts.getD k (0, .undef)).1 ∧ RepA w I ι H (vparts.getD k (0, undef)).2 (parts.getD k (0, .undef)).2)
    (vs : Array Value) (cs : List A) (hc : RepCs w I ι H vs cs) (cs' : List A) (h : fillA place cs parts = some cs'),
    ∃ vs', Instr.fill place' vs vparts = some vs' ∧ RepCs w I ι H vs' cs' ∧ cs'.length = cs.length
  | [], vparts, hl, _, vs, cs, hc, cs', h => by
    cases vparts with
    | nil => cases h; exact ⟨vs, rfl, hc, rfl⟩
    | cons p q => simp at hl
  | (i, a) :: parts, vparts, hl, hr, vs, cs, hc, cs', h => by
    cases vparts with
    | nil => simp at hl
    | cons p vparts =>
      obtain ⟨i', v⟩ := p
      have h0 := hr 0 (by simp)
      simp only [List.getD_cons_zero] at h0
      obtain ⟨rfl, hv⟩ := h0
      simp only [fillA] at h
      split at h
      · cases h
      · rename_i off size hpl
        split at h
        · rename_i hcond
          simp only [Bool.and_eq_true, Nat.beq_eq, Nat.ble_eq, lenL_eq] at hcond
          obtain ⟨⟨hlf, hsz⟩, hfit⟩ := hcond
          obtain ⟨g1, g2⟩ := rep_cells hv hlf
          have hvsz : v.cells.size = size := by omega
          have hcsz := hc.1
          obtain ⟨f1, f2⟩ := foldl_set off v.cells.toList 0 vs
          have hfold : (v.cells.zipIdx.foldl (fun cs (c, j) => cs.setIfInBounds (off + j) c) vs) = ((v.cells.toList.zipIdx 0).foldl (fun cs (p : Value × Nat) => cs.setIfInBounds (off + p.2) p.1) vs) := by
            rw [← Array.foldl_toList]
            simp
          have hnew : RepCs w I ι H ((v.cells.toList.zipIdx 0).foldl (fun cs (p : Value × Nat) => cs.setIfInBounds (off + p.2) p.1) vs) (overL cs off a.cells) := by
            refine ⟨by rw [f1, overL_length]; exact hcsz, fun k hk => ?_⟩
            rw [overL_length] at hk
            rw [f2 k, overL_getD _ _ _ _ _ (by omega)]
            have hll : v.cells.toList.length = a.cells.length := by simpa using g1
            rw [hll]
            by_cases c : off ≤ k ∧ k < off + a.cells.length
            · rw [if_pos (by omega), if_pos c]
              have := (g2 (k - off) (by omega)).1
              simpa [Array.getD_eq_getD_getElem?, List.getD_eq_getElem?_getD] using this
            · rw [if_neg (by omega), if_neg c]
              exact hc.2 k hk
          obtain ⟨vs', q1, q2, q3⟩ := fill_ok hp parts vparts (by simpa using hl) (fun k hk => by simpa using hr (k + 1) (by simpa using hk)) _ _ hnew cs' h
          refine ⟨vs', ?_, q2, by rw [q3, overL_length]⟩
          simp only [Instr.fill, hp _ _ hpl]
          have hcnd : ¬ ((decide (v.cells.size ≠ size) || decide (off + v.cells.size > vs.size)) = true) := by simp; omega
          rw [if_neg hcnd, hfold]
          exact q1
        · cases h

theorem parts_rep {a : Act} {tm : List A} (hT : RepT w I ι H a tm) (parts : Array (Nat × Operand)) :
    (parts.map fun (i, x) => (i, a.eval x)).toList.length = (parts.toList.map fun (i, x) => (i, ev tm x)).length ∧
    ∀ k, k < (parts.toList.map fun (i, x) => (i, ev tm x)).length → ((parts.map fun (i, x) => (i, a.eval x)).toList.getD k (0, undef)).1 = ((parts.toList.map fun (i, x) => (i, ev tm x)).getD k (0, .undef)).1 ∧
      RepA w I ι H ((parts.map fun (i, x) => (i, a.eval x)).toList.getD k (0, undef)).2 ((parts.toList.map fun (i, x) => (i, ev tm x)).getD k (0, .undef)).2 := by
  refine ⟨by simp, fun k hk => ?_⟩
  have hk' : k < parts.size := by simpa using hk
  simp only [Array.toList_map, List.getD_eq_getElem?_getD, List.getElem?_map, Array.getElem?_toList, Array.getElem?_eq_getElem hk', Option.map_some, Option.getD_some]
  exact ⟨trivial, ev_rep hT _⟩

theorem run_mapM_list {α β : Type} (f : α → Sem β) (g : α → β) : ∀ (l : List α), (∀ x ∈ l, (f x).run P w = .ok (g x) w) → (l.mapM f).run P w = .ok (l.map g) w
  | [], _ => rfl
  | x :: l, h => by
    rw [List.mapM_cons]
    simp only [Sem.run_bind, h x (by simp), Result.andThen_ok, run_mapM_list f g l (fun y hy => h y (by simp [hy])), Sem.run_pure, List.map_cons]

theorem run_mapM_array {α β : Type} (f : α → Sem β) (g : α → β) (l : Array α) (h : ∀ x ∈ l.toList, (f x).run P w = .ok (g x) w) : (l.mapM f).run P w = .ok (l.map g) w := by
  rw [Array.mapM_eq_mapM_toList]
  simp only [Sem.run_map, run_mapM_list f g l.toList h, Result.andThen_ok]
  congr 1
  apply Array.ext'
  simp

theorem allTI_ok {T : Tab} : ∀ {fs : List (Nat × Nat)}, allTI T fs = true → ∀ p ∈ fs, ∃ ti, T.ti p.2 = some ti := by
  intro fs
  induction fs with
  | nil => intro _ p hp; cases hp
  | cons q fs ih =>
    intro h p hp
    simp only [allTI, Bool.and_eq_true] at h
    rcases List.mem_cons.1 hp with rfl | hp
    · cases hx : T.ti p.2 with
      | none => simp [hx] at h
      | some ti => exact ⟨ti, rfl⟩
    · exact ih h.2 p hp

theorem wbuild_ok (hT : TabOk P T) {t : Nat} {parts : List (Nat × A)} {vparts : Array (Nat × Value)} {Q : A → Prop} (r : Rel B ι I w H) (hl : vparts.toList.length = parts.length)
    (hr : ∀ k, k < parts.length → (vparts.toList.getD k (0, undef)).1 = (parts.getD k (0, .undef)).1 ∧ RepA w I ι H (vparts.toList.getD k (0, undef)).2 (parts.getD k (0, .undef)).2) (h : wbuild T t parts Q) :
    StepsV P B (Instr.build t vparts) w I ι H (fun a H' => Q a ∧ H' = H) := by
  unfold wbuild at h
  split at h
  · rename_i fs _ _ zero hti
    obtain ⟨d, hd, hu⟩ := (hT.ti _ _ hti).underlying
    obtain ⟨fa, rfl, hfa⟩ := kindOf_struct hd
    obtain ⟨z, hz, hz1, hz2⟩ := (hT.ti _ _ hti).zeroValue w
    obtain ⟨hall, h⟩ := h
    split at h
    · rename_i cs hcs
      have hmem : ∀ x ∈ fa.toList, ∃ ti, TIOk P x.type ti ∧ T.ti x.type = some ti := fun x hx => by
        obtain ⟨ti, hti⟩ := allTI_ok hall (x.offset, x.type) (by rw [← hfa]; exact List.mem_map.2 ⟨x, hx, rfl⟩)
        exact ⟨ti, hT.ti _ _ hti, hti⟩
      have hmap := run_mapM_array (P := P) (w := w) (fun f : Field => do pure (f.offset, ← sizeOf f.type)) (fun f : Field => (f.offset, match T.ti f.type with | some ti => ti.size | none => 0)) fa (fun x hx => by
        obtain ⟨ti, h1, h2⟩ := hmem x hx
        simp [h1.sizeOf w, h2])
      obtain ⟨g1, g2⟩ := zero_rep (w := w) (I := I) (ι := ι) (H := H) hz1
      obtain ⟨vs', q1, q2, q3⟩ := fill_ok (w := w) (I := I) (ι := ι) (H := H) (place := structPlace T fs) (place' := ((fa.map (fun f : Field => (f.offset, match T.ti f.type with | some ti => ti.size | none => 0)))[·]?)) (fun i p hp => by
          unfold structPlace at hp
          rw [getL_eq] at hp
          split at hp
          · rename_i off ft hget
            split at hp
            · rename_i ti hft
              cases hp
              rw [List.getD_eq_getElem?_getD, List.getElem?_map, ← hfa, List.getElem?_map] at hget
              cases hq : fa.toList[i]? with
              | none => simp [hq] at hget
              | some fd =>
                simp [hq] at hget
                have hq' : fa[i]? = some fd := by simpa using hq
                simp [hq', hget.1, hget.2, hft]
            · cases hp
          · cases hp) parts vparts.toList hl hr z.cells zero ⟨g1, g2⟩ cs hcs
      have hrep := RepA.agg (w := w) (I := I) (ι := ι) (H := H) vs'.toList cs (by simpa using q2.1) (fun k hk => by
        have := q2.2 k hk
        simpa [Array.getD_eq_getD_getElem?, List.getD_eq_getElem?_getD] using this)
      refine .pure r (v := .agg vs') ?_ (by simpa using hrep) ⟨h, rfl⟩
      simp only [Instr.build, Sem.run_bind, hz, Result.andThen_ok, hu, hmap, Array.getElem?_map] at q1 ⊢
      simp [q1]
    · exact h.elim
  · rename_i n e _ _ zero hti
    obtain ⟨d, hd, hu⟩ := (hT.ti _ _ hti).underlying
    obtain rfl := kindOf_array hd
    obtain ⟨z, hz, hz1, hz2⟩ := (hT.ti _ _ hti).zeroValue w
    split at h
    · rename_i te hte
      split at h
      · rename_i cs hcs
        obtain ⟨g1, g2⟩ := zero_rep (w := w) (I := I) (ι := ι) (H := H) hz1
        obtain ⟨vs', q1, q2, q3⟩ := fill_ok (w := w) (I := I) (ι := ι) (H := H) (place' := fun i => some (i * te.size, te.size)) (fun i p hp => hp) parts vparts.toList hl hr z.cells zero ⟨g1, g2⟩ cs hcs
        have hrep := RepA.agg (w := w) (I := I) (ι := ι) (H := H) vs'.toList cs (by simpa using q2.1) (fun k hk => by
          have := q2.2 k hk
          simpa [Array.getD_eq_getD_getElem?, List.getD_eq_getElem?_getD] using this)
        refine .pure r (v := .agg vs') ?_ (by simpa using hrep) ⟨h, rfl⟩
        simp [Instr.build, hz, hu, (hT.ti _ _ hte).sizeOf w, q1]
      · exact h.elim
    · exact h.elim
  · exact h.elim

/-! ### New arrays -/
theorem arr_ok (r : Rel B ι I w H) {w' : World} {vs : Array Value} {el : TypeId} (hw : w'.heap = (w.alloc (.cells vs el)).heap) (hb : Below B w w') {n sz : Nat} {get : Nat → Nat → D} (hs : n * sz ≤ vs.size) (hc : ∀ i j, i < n → j < sz → RepD w I (vs.getD (i * sz + j) undef) (get i j)) {cap : Nat} (hcap : n ≤ cap) (hcs : cap * sz ≤ vs.size) :
    RepA w' I (updι ι H.length (some w.heap.size)) (H ++ [.arr n sz get 0]) (.slice (some ⟨w.heap.size, 0, none⟩) n cap) (.ref H.length 0 n sz) ∧
    Rel B (updι ι H.length (some w.heap.size)) I w' (H ++ [.arr n sz get 0]) ∧ Goes w w' I I ι (updι ι H.length (some w.heap.size)) H (H ++ [.arr n sz get 0]) := by
  have hbl := fun b (h : b < w.heap.size) => (show w'.heap[b]? = w.heap[b]? by rw [hw]; exact heap_alloc_eq w (.cells vs el) b h)
  have hnew : w'.heap[w.heap.size]? = some (.cells vs el) := by rw [hw]; exact heap_alloc_new _ _
  have hsz : w.heap.size ≤ w'.heap.size := by rw [hw]; show _ ≤ (w.heap.push _).size; simp
  have g := Goes.new hbl r.imm ι H (.arr n sz get 0) (some w.heap.size)
  refine ⟨?_, ?_, g⟩
  · refine .ref _ _ _ _ _ (by simp) (fun n' sz' get' fz' h _ => ?_) ⟨_, _, rfl⟩
    rw [List.getElem?_append_right (Nat.le_refl _)] at h
    simp at h
    obtain ⟨rfl, rfl, rfl, rfl⟩ := h
    exact ⟨by omega, fun _ => .inl ⟨w.heap.size, cap, vs, el, (0, 0), by simp [updι], by simp, hnew, by simpa using hcs, hcap⟩⟩
  · refine r.new hsz hbl _ _ (fun b' e => by cases e; exact Nat.le_refl _) ?_
    refine ⟨Nat.zero_le _, .inl ⟨w.heap.size, vs, el, (0, 0), by simp [updι], r.fresh, hnew, hs, fun i j hi hj => (hc i j hi hj).mono g.same g.imm, fun k _ hi => ?_, fun k _ => ?_⟩⟩
    · exact absurd (r.imm _ _ hi) (Nat.lt_irrefl _)
    · unfold World.frozen?; rw [hnew]; simp

theorem repL_length {α : Type} (xs : List α) (n : Nat) : (repL xs n).length = n * xs.length := by
  induction n with
  | zero => simp [repL]
  | succ n ih => simp [repL, ih, Nat.add_mul]; omega

theorem repL_getD {α : Type} (xs : List α) (d : α) : ∀ (n k : Nat), k < n * xs.length → (repL xs n).getD k d = xs.getD (k % xs.length) d
  | 0, k, h => by simp at h
  | n + 1, k, h => by
    rw [Nat.add_mul, Nat.one_mul] at h
    by_cases c : k < xs.length
    · simp only [repL, List.getD_eq_getElem?_getD, List.getElem?_append_left c, Nat.mod_eq_of_lt c]
    · have : xs.length ≤ k := by omega
      simp only [repL, List.getD_eq_getElem?_getD, List.getElem?_append_right this]
      have ih := repL_getD xs d n (k - xs.length) (by omega)
      simp only [List.getD_eq_getElem?_getD] at ih
      rw [ih, Nat.mod_eq_sub_mod this]

end Go.VM

/- Slices that are made, appending, strings that are ranged over; and all operations together. -/
set_option linter.unusedSimpArgs false
set_option linter.unusedVariables false
set_option linter.unusedSectionVars false
namespace Go.VM
open Ops
variable [Ops] [Glb] [Lim]

variable {P : Program} {T : Tab} {B : Gd} {ι : Nat → Option Nat} {I : Nat → Nat → Prop} {w : World} {H : AHeap}

theorem Below.allocw {w' : World} {x : Obj} (hw : w' = w.alloc x ∨ w' = w.drew.alloc x) (_h : ∀ k, B k → k < w.heap.size) : Below B w w' := by
  rcases hw with rfl | rfl
  · exact (Below.refl B w).alloc x
  · exact ((Below.refl B w).drew).alloc x

theorem wbuildSlice_ok (hT : TabOk P T) {t len : Nat} {parts : List (Nat × A)} {vparts : Array (Nat × Value)} {Q : A → AHeap → Prop} (r : Rel B ι I w H) (hl : vparts.toList.length = parts.length)
    (hr : ∀ k, k < parts.length → (vparts.toList.getD k (0, undef)).1 = (parts.getD k (0, .undef)).1 ∧ RepA w I ι H (vparts.toList.getD k (0, undef)).2 (parts.getD k (0, .undef)).2) (h : wbuildSlice T t len parts H Q) :
    StepsV P B (Instr.buildSlice t len vparts) w I ι H Q := by
  unfold wbuildSlice at h
  split at h
  · rename_i e _ _ _ hti
    obtain ⟨d, hd, hu⟩ := (hT.ti _ _ hti).underlying
    obtain rfl := kindOf_slice hd
    split at h
    · rename_i te hte
      obtain ⟨h1, h2, h3⟩ := h
      simp only [Nat.ble_eq] at h1 h2
      have hTe := hT.ti _ _ hte
      split at h3
      · rename_i cs hcs
        obtain ⟨z, hz, hz1, hz2⟩ := hTe.zeroValue w
        obtain ⟨g1, g2⟩ := zero_rep (w := w) (I := I) (ι := ι) (H := H) hz1
        have hzn : 0 < z.cells.size := by omega
        -- the zero cells
        let zero : Array Value := if len * te.size = 0 then #[] else z.cells
        have hz0 : RepCs w I ι H ((Array.range (len * te.size)).map (zero[· % zero.size]!)) (repL te.zero len) := by
          refine ⟨by simp [repL_length, ← g1, hz2], fun k hk => ?_⟩
          rw [repL_length, ← g1, hz2] at hk
          have hne : ¬ len * te.size = 0 := by omega
          have hzero : zero = z.cells := by simp only [zero, if_neg hne]
          rw [repL_getD _ _ _ _ (by rw [← g1, hz2]; exact hk), ← g1]
          have hmod : k % z.cells.size < z.cells.size := Nat.mod_lt _ hzn
          have := g2 (k % z.cells.size) (by rw [← g1]; exact hmod)
          have e : ((Array.range (len * te.size)).map (zero[· % zero.size]!)).getD k undef = z.cells.getD (k % z.cells.size) undef := by
            simp [Array.getD_eq_getD_getElem?, hk, hzero, Array.getElem?_eq_getElem hmod, getElem!_pos, hmod]
          rw [e]; exact this
        obtain ⟨vs', q1, q2, q3⟩ := fill_ok (w := w) (I := I) (ι := ι) (H := H) (place' := fun i => some (i * te.size, te.size)) (fun i p hp => hp) parts vparts.toList hl hr _ _ hz0 cs hcs
        obtain ⟨I1, H1, xs, s1, l1, d1, hq⟩ := wdatas_ok cs r (vs := vs'.toList) (by simpa using q2.1) (fun k hk => by
          have := q2.2 k hk
          simpa [Array.getD_eq_getD_getElem?, List.getD_eq_getElem?_getD] using this) h3
        have hcl : cs.length = len * te.size := by rw [q3, repL_length, ← g1, hz2]
        have hidx : ∀ i j, i < len → j < te.size → i * te.size + j < len * te.size := fun i j hi hj => by
          have : (i + 1) * te.size ≤ len * te.size := Nat.mul_le_mul_right _ hi
          rw [Nat.add_mul] at this; omega
        have hvs : vs'.size = len * te.size := by rw [q2.1, hcl]
        obtain ⟨k1, k2, k3⟩ := arr_ok (vs := vs') (el := e) s1.1 (w' := w.alloc (.cells vs' e)) rfl (Below.allocw (.inl rfl) r.base) (n := len) (sz := te.size) (get := rowG te.size xs) (by omega) (fun i j hi hj => by
          have := d1 (i * te.size + j) (by rw [hcl]; exact hidx i j hi hj)
          simpa [rowG_eq, Array.getD_eq_getD_getElem?, List.getD_eq_getElem?_getD] using this) (cap := len) (Nat.le_refl _) (by omega)
        rw [lenL_eq] at hq
        refine ⟨_, _, w.alloc (.cells vs' e), I1, _, _, ?_, hq, k1, k2, s1.2.trans k3, Below.allocw (.inl rfl) r.base⟩
        have hle : ¬ (len * te.size > 2 ^ 24) := by omega
        simp only [Instr.buildSlice, Sem.run_bind, hu, Result.andThen_ok, hTe.sizeOf w, hle, if_false]
        by_cases hz0' : len * te.size = 0
        · simp only [zero, hz0', if_true] at q1
          simp only [hz0', if_true, Sem.run_pure, Result.andThen_ok]
          rw [show (0 : Nat) = len * te.size from hz0'.symm] at q1 ⊢
          simp only [hz0'] at q1 ⊢
          simp at q1 ⊢
          rw [q1]
          simp [newRow]
        · simp only [zero, hz0', if_false] at q1
          simp only [hz0', if_false, Sem.run_bind, hz, Sem.run_pure, Result.andThen_ok]
          rw [q1]
          simp [newRow]
      · exact h3.elim
    · exact h.elim
  · exact h.elim

theorem wmake_ok (hT : TabOk P T) {t : Nat} {n c : A} {vn vc : Value} {Q : A → AHeap → Prop} (r : Rel B ι I w H) (hn : RepA w I ι H vn n) (hc : RepA w I ι H vc c) (h : wmake T t n c H Q) :
    StepsV P B (Instr.makeSlice t vn vc) w I ι H Q := by
  unfold wmake at h
  split at h
  · rename_i e _ _ _ k n k' c hti
    obtain ⟨d, hd, hu⟩ := (hT.ti _ _ hti).underlying
    obtain rfl := kindOf_slice hd
    obtain rfl := rep_int hn
    obtain rfl := rep_int hc
    split at h
    · rename_i te hte
      obtain ⟨h1, h2, h3, h4, h5, h6⟩ := h
      simp only [leP_eq, decide_eq_true_eq] at h1 h2 h3
      simp only [Nat.ble_eq] at h4 h5
      have hTe := hT.ti _ _ hte
      obtain ⟨z, hz, hz1, hz2⟩ := hTe.zeroValue w
      obtain ⟨g1, g2⟩ := zero_rep (w := w) (I := I) (ι := ι) (H := H) hz1
      have hzn : 0 < z.cells.size := by omega
      obtain ⟨I1, H1, xs, s1, l1, d1, hq⟩ := wdatas_ok te.zero r (vs := z.cells.toList) (by simpa using g1) (fun k hk => by
        have := g2 k hk
        simpa [Array.getD_eq_getD_getElem?, List.getD_eq_getElem?_getD] using this) h6
      obtain ⟨inf, hinf, hi1, hi2⟩ := hTe.typeInfo w
      have wn : IntKind.i64.wrap n = n := by
        simp only [IntKind.wrap, IntKind.signed, IntKind.bits]
        simp; omega
      have wc : IntKind.i64.wrap c = c := by
        simp only [IntKind.wrap, IntKind.signed, IntKind.bits]
        simp; omega
      have hbc : ¬ ((te.bytes : Int) * c > 2 ^ 48) := by
        have : (te.bytes : Int) * c ≤ 65536 * 1073741824 := by
          refine Int.le_trans (Int.mul_le_mul_of_nonneg_right (show (te.bytes : Int) ≤ 65536 by omega) (by omega)) ?_
          exact Int.mul_le_mul_of_nonneg_left h3 (by omega)
        omega
      have hbn : ¬ ((te.bytes : Int) * n > 2 ^ 48) := by
        have : (te.bytes : Int) * n ≤ 65536 * 1073741824 := by
          refine Int.le_trans (Int.mul_le_mul_of_nonneg_right (show (te.bytes : Int) ≤ 65536 by omega) (by omega)) ?_
          exact Int.mul_le_mul_of_nonneg_left (by omega) (by omega)
        omega
      let N := c.toNat * te.size
      let zero : Array Value := if N = 0 then #[] else z.cells
      let vs : Array Value := (Array.range N).map (zero[· % zero.size]!)
      have hvs : vs.size = N := by simp [vs]
      have hnc : n.toNat * te.size ≤ N := Nat.mul_le_mul_right _ (by omega)
      have hcell : ∀ i j, i < n.toNat → j < te.size → RepD w I1 (vs.getD (i * te.size + j) undef) (getL xs j .nilp) := fun i j hi hj => by
        have hlt : i * te.size + j < N := by
          have : (i + 1) * te.size ≤ n.toNat * te.size := Nat.mul_le_mul_right _ hi
          rw [Nat.add_mul] at this; omega
        have hne : ¬ N = 0 := by omega
        have hzero : zero = z.cells := by simp only [zero, if_neg hne]
        have hmod : (i * te.size + j) % te.size = j := by
          rw [Nat.add_comm, Nat.add_mul_mod_self_right, Nat.mod_eq_of_lt hj]
        have e : vs.getD (i * te.size + j) undef = z.cells.getD j undef := by
          simp only [vs, hzero, hz2]
          have hj' : j < z.cells.size := by omega
          simp [Array.getD_eq_getD_getElem?, hlt, hmod, Array.getElem?_eq_getElem hj', getElem!_pos, hj']
        rw [e]
        have := d1 j (by omega)
        simpa [getL_eq, Array.getD_eq_getD_getElem?, List.getD_eq_getElem?_getD] using this
      obtain ⟨k1, k2, k3⟩ := arr_ok (vs := vs) (el := e) s1.1 (w' := w.alloc (.cells vs e)) rfl (Below.allocw (.inl rfl) r.base) (n := n.toNat) (sz := te.size) (get := fun _ j => getL xs j .nilp) (by omega) hcell (cap := c.toNat) (by omega) (by omega)
      rw [lenL_eq] at hq
      refine ⟨_, _, w.alloc (.cells vs e), I1, _, _, ?_, by simpa [natOf_eq] using hq, k1, k2, s1.2.trans k3, Below.allocw (.inl rfl) r.base⟩
      have hcn : ¬ (c < 0) := by omega
      have hcnd : ¬ (((decide (c < 0) || decide ((inf.bytes : Int) * c > 2 ^ 48)) || decide (n < 0) || decide (n > c)) = true) := by
        rw [hi2]; simp; omega
      simp only [Instr.makeSlice, Sem.run_bind, hu, Result.andThen_ok, asInt, asIntOf, Sem.run_pure, hinf, wn, wc]
      rw [if_neg hcnd]
      simp only [Sem.run_pure, Sem.run_bind, run_askRoom, Result.andThen_ok, hTe.sizeOf w]
      by_cases hz0 : N = 0
      · have hz0' : c.toNat * te.size = 0 := hz0
        simp only [hz0', if_true, Sem.run_pure, Result.andThen_ok]
        have : vs = #[] := by apply Array.eq_empty_of_size_eq_zero; omega
        simp [newRow, this]
        congr 2
        exact Array.eq_empty_of_size_eq_zero (by simp)
      · have hz0' : ¬ c.toNat * te.size = 0 := hz0
        simp only [hz0', if_false, Sem.run_bind, hz, Sem.run_pure, Result.andThen_ok]
        simp only [vs, zero, hz0, if_false]
        simp [newRow, N]
    · exact h.elim
  · exact h.elim

/-! ### What is appended -/
theorem data_src {v : Value} {n sz : Nat} {get : Nat → Nat → D} (hv : RepD w I v (.sl n sz get)) (size : Nat) (hs : sz = size ∨ n = 0) :
    ∃ news, Src P w v n size news ∧ (∀ i j, i < n → j < size → RepD w I (news.getD (i * size + j) undef) (get i j)) ∧ ∀ x ∈ news.toList, x.oneCell' = true := by
  cases hv with
  | sl0 a cap =>
    refine ⟨#[], ⟨fun w' => rfl, fun w' _ => ?_, by simp⟩, fun i j hi => absurd hi (by omega), fun x hx => by simp at hx⟩
    cases a <;> simp [Builtin.firstCells, loadCells, loadCellsFrom]
  | sl b o _ cap _ _ vals hl hc hr =>
    by_cases hn : n = 0
    · subst hn
      exact ⟨#[], ⟨fun w' => rfl, fun w' _ => by simp [Builtin.firstCells, loadCells, loadCellsFrom], by simp⟩, fun i j hi => absurd hi (by omega), fun x hx => by simp at hx⟩
    · have hs := hs.resolve_right hn
      subst hs
      have hdm : ∀ k, k < n * sz → k / sz < n ∧ k % sz < sz ∧ k / sz * sz + k % sz = k := fun k hk => by
        have h0 : 0 < sz := by
          rcases Nat.eq_zero_or_pos sz with h | h
          · subst h; simp at hk
          · exact h
        refine ⟨(Nat.div_lt_iff_lt_mul h0).2 hk, Nat.mod_lt _ h0, ?_⟩
        rw [Nat.mul_comm]; exact Nat.div_add_mod k sz
      let l : List Value := (List.range (n * sz)).map fun k => vals (k / sz) (k % sz)
      have hll : l.length = n * sz := by simp [l]
      have hlg : ∀ k, k < n * sz → l.getD k undef = vals (k / sz) (k % sz) := fun k hk => by
        simp [l, List.getD_eq_getElem?_getD, hk]
      refine ⟨l.toArray, ⟨fun w' => rfl, fun w' hw => ?_, by simp [hll]⟩, fun i j hi hj => ?_, fun x hx => ?_⟩
      · refine run_firstCells_some (P := P) w' sz n ⟨b, o, none⟩ n cap l hll (fun j v hj => ?_)
        have hjl : j < n * sz := by
          have := (List.getElem?_eq_some_iff.1 hj).1
          omega
        obtain ⟨q1, q2, q3⟩ := hdm j hjl
        have := (hc _ _ q1 q2).2
        rw [q3] at this
        rw [Addr.add_mid]
        have e : w'.cell? ⟨b, o + j, none⟩ = w.cell? ⟨b, o + j, none⟩ := by unfold World.cell?; rw [hw]
        rw [e, this]
        have := hlg j hjl
        rw [List.getD_eq_getElem?_getD, hj] at this
        simpa using this.symm
      · have hlt : i * sz + j < n * sz := by
          have : (i + 1) * sz ≤ n * sz := Nat.mul_le_mul_right _ hi
          rw [Nat.add_mul] at this; omega
        have e : l.toArray.getD (i * sz + j) undef = vals i j := by
          have := hlg _ hlt
          have h0 : 0 < sz := by omega
          rw [show (i * sz + j) / sz = i by rw [Nat.mul_comm, Nat.mul_add_div h0, Nat.div_eq_of_lt hj, Nat.add_zero], show (i * sz + j) % sz = j by rw [Nat.mul_comm, Nat.mul_add_mod, Nat.mod_eq_of_lt hj]] at this
          rw [← this]
          simp [Array.getD_eq_getD_getElem?, List.getD_eq_getElem?_getD]
        rw [e]; exact hr i j hi hj
      · have hx : x ∈ l := by simpa using hx
        obtain ⟨k, hk, rfl⟩ := List.mem_map.1 hx
        have hk := List.mem_range.1 hk
        obtain ⟨q1, q2, q3⟩ := hdm k hk
        exact (hr _ _ q1 q2).oneCell

theorem wsrc_ok (r : Rel B ι I w H) {x : A} {vx : Value} (hx : RepA w I ι H vx x) {K : Nat → (Nat → Nat → D) → Nat → AHeap → Prop} (h : wsrc x H K) :
    ∃ m get sz, K m get sz H ∧ ∀ size, (sz = size ∨ m = 0) → ∃ news, Src P w vx m size news ∧ (∀ i j, i < m → j < size → RepD w I (news.getD (i * size + j) undef) (get i j)) ∧ ∀ x ∈ news.toList, x.oneCell' = true := by
  unfold wsrc at h
  split at h
  · cases hx
    refine ⟨0, _, _, h, fun size _ => ⟨#[], ⟨fun w' => rfl, fun w' _ => by simp [Builtin.firstCells], by simp⟩, fun i j hi => absurd hi (by omega), fun x hx => by simp at hx⟩⟩
  · cases hx with | d _ _ hx =>
    exact ⟨_, _, _, h, fun size hs => data_src hx size hs⟩
  · rename_i s
    obtain rfl := rep_str hx
    refine ⟨_, _, _, h, fun size hs => ?_⟩
    by_cases h0 : s.size = 0
    · refine ⟨#[], ⟨fun w' => by simp [Builtin.lenOf, natOf_eq, lenS_eq], fun w' _ => ?_, by simp [natOf_eq, lenS_eq, h0]⟩, fun i j hi => absurd hi (by simp [natOf_eq, lenS_eq, h0]), fun x hx => by simp at hx⟩
      simp only [Builtin.firstCells, natOf_eq, lenS_eq, Int.toNat_natCast, Sem.run_pure]
      congr 1
      apply Array.eq_empty_of_size_eq_zero
      simp [h0]
    · have hs : size = 1 := by
        rcases hs with hs | hs
        · exact hs.symm
        · exact absurd (by simpa [natOf_eq, lenS_eq] using hs) h0
      subst hs
      have hds : s.data.size = s.size := rfl
      have hex : (s.extract 0 s.size).data = s.data := by
        rw [ByteArray.data_extract, ← hds, Array.extract_size]
      refine ⟨s.data.map fun b => .int .u8 b.toNat, ⟨fun w' => by simp [Builtin.lenOf, natOf_eq, lenS_eq], fun w' _ => ?_, by simp [natOf_eq, lenS_eq]⟩, fun i j hi hj => ?_, fun x hx => ?_⟩
      · simp only [Builtin.firstCells, natOf_eq, lenS_eq, Int.toNat_natCast, Sem.run_pure, hex]
      · have hi' : i < s.data.size := by rw [hds]; simpa [natOf_eq, lenS_eq] using hi
        obtain rfl : j = 0 := by omega
        have : bt s i = (s.data[i].toNat : Int) := by
          rw [bt_eq]
          rw [Int.toNat_natCast, List.getD_eq_getElem?_getD, Array.getElem?_toList, Array.getElem?_eq_getElem hi', Option.getD_some]
        simp only [Nat.mul_one, Nat.add_zero, strG_eq, this]
        rw [Array.getD_eq_getD_getElem?, Array.getElem?_map, Array.getElem?_eq_getElem hi', Option.map_some, Option.getD_some]
        exact .int _ _
      · simp at hx
        obtain ⟨b, _, rfl⟩ := hx
        rfl
  · rename_i o off len sz
    simp only [getL_eq] at h
    split at h
    · rename_i n sz' get fz hob
      obtain ⟨h1, h2, h3⟩ := h
      simp only [Nat.beq_eq] at h1
      simp only [eqN_eq, addO_eq] at h2
      subst h1
      have hob := getD_obj hob (by simp)
      obtain ⟨I', hs', hI⟩ := freeze_ok r hob
      have hd := ref_data hs'.1 (n := n) (fz := n) (by rw [List.getElem?_set_self (List.getElem?_eq_some_iff.1 hob).1]) (hx.goes hs'.2) h2 hI
      refine ⟨len, _, sz, h3, fun size hs => ?_⟩
      obtain ⟨news, q1, q2, q3⟩ := data_src (P := P) hd size hs
      refine ⟨news, q1, fun i j hi hj => ?_, q3⟩
      -- the elements are those of the object, which are data without the freezing
      obtain ⟨-, hobj⟩ := r.obj o _ hob
      have hsz := hs.resolve_right (by omega)
      subst hsz
      cases hx with | ref _ _ _ _ _ ho hr hlen =>
      obtain ⟨-, hok⟩ := hr n sz get fz hob rfl
      rcases hok h2 with ⟨b, cap, vs, el, fr, e1, rfl, e3, e4, e5⟩ | ⟨_, _, e⟩ | ⟨_, _, e, _⟩
      · rcases hobj with ⟨b', vs', el', fr', g1, g2, g3, g4, g5, g6⟩ | ⟨g1, g2⟩
        · obtain rfl : b = b' := by rw [e1] at g1; exact Option.some.inj g1
          have hlt : ∀ k, k < len * sz → off * sz + k < n * sz := fun k hk => by
            rw [← h2, Nat.add_mul]; omega
          have hfirst := run_firstCells_some (P := P) w sz len ⟨b, off * sz, none⟩ len cap ((List.range (len * sz)).map fun k => vs'.getD (off * sz + k) undef) (by simp) (fun j v hj => by
            have hjl : j < len * sz := by
              have := (List.getElem?_eq_some_iff.1 hj).1
              simpa using this
            rw [Addr.add_mid, cell_of_block g3 (by have := hlt j hjl; omega)]
            simpa [hjl] using hj)
          have h1 := q1.first w rfl
          rw [h1] at hfirst
          have hnews := (Result.ok.inj hfirst).1
          have hij : i * sz + j < len * sz := by
            have : (i + 1) * sz ≤ len * sz := Nat.mul_le_mul_right _ hi
            rw [Nat.add_mul] at this; omega
          rw [hnews]
          have e : (((List.range (len * sz)).map fun k => vs'.getD (off * sz + k) undef).toArray).getD (i * sz + j) undef = vs'.getD ((off + i) * sz + j) undef := by
            rw [Nat.add_mul, Nat.add_assoc]
            simp [Array.getD_eq_getD_getElem?, hij]
          rw [e, offG_eq]
          exact g5 (off + i) j (by omega) hj
        · rw [g1] at e1; cases e1
      · omega
      · omega
    · exact h.elim
  · exact h.elim

end Go.VM

/- Appending; strings that are ranged over; all operations together. -/
set_option linter.unusedSimpArgs false
set_option linter.unusedVariables false
set_option linter.unusedSectionVars false
namespace Go.VM
open Ops
variable [Ops] [Glb] [Lim]

variable {P : Program} {T : Tab} {B : Gd} {ι : Nat → Option Nat} {I : Nat → Nat → Prop} {w : World} {H : AHeap}

theorem Rel.growJ {J : Nat → Nat → Prop} {w' : World} (r : Rel B ι I w H) (hb : Below (fun k => k < w.heap.size) w w') (h1 : ∀ b k, I b k → J b k) (h2 : ∀ b k, b < w.heap.size → J b k → I b k) (h3 : ∀ b k, J b k → b < w'.heap.size) :
    Rel B ι J w' H ∧ Goes w w' I J ι ι H H := by
  have hblk : ∀ b, b < w.heap.size → w'.heap[b]? = w.heap[b]? := fun b hlt => hb.block b hlt hlt
  have g : Goes w w' I J ι ι H H := by
    refine ⟨fun b k hk => ?_, h1, Nat.le_refl _, fun o off len sz v ho hx n sz' get fz h1 h2 => ⟨(hx n sz' get fz h1 h2).1, fun e => ?_⟩, fun o cs _ h hbx => ⟨⟨_, h, hbx⟩, rfl⟩, fun o n sz get fz _ h => ⟨_, _, _, h, Nat.le_refl _, fun _ => rfl⟩, fun o s p _ h => ⟨⟨_, _, h⟩, rfl⟩⟩
    · unfold World.cell?
      rw [hblk b (r.imm b k hk)]
    · rcases (hx n sz' get fz h1 h2).2 e with ⟨b, cap, vs, el, fr, p1, p2, p3, p4⟩ | h | h
      · exact .inl ⟨b, cap, vs, el, fr, p1, p2, (hblk b (Array.getElem?_eq_some_iff.1 p3).1).trans p3, p4⟩
      · exact .inr (.inl h)
      · exact .inr (.inr h)
  have hbelow : Below B w w' := ⟨hb.os, hb.tape, hb.output, hb.size, fun k hk _ => hblk k hk⟩
  refine ⟨⟨fun k hk => Nat.lt_of_lt_of_le (r.base k hk) hbelow.size, h3, fun b k hb hk => r.low b k hb (h2 b k (r.base b hb) hk), g.glob r.glob, ?_, r.inj2 hblk⟩, g⟩
  intro o x hx
  by_cases hl : x.live
  · exact (r.obj o x hx).keep g rfl (fun b hb => hblk b ((r.obj o x hx).lt hl hb).2) (fun b k hb hk => h2 b k ((r.obj o x hx).lt hl hb).2 hk)
  · cases x <;> first | trivial | exact (hl trivial).elim
/-- a new variable that nobody writes once it is made: data -/
theorem wboxF_ok {t : Nat} {x : A} {vx : Value} (r : Rel B ι I w H) (hx : RepA w I ι H vx x) (hl : allLeaf x.cells = true) {Q : A → AHeap → Prop} (h : wdatas x.cells H (fun xs H' => Q (.iptr (fun _ j => getL xs j .nilp) 0 0 (lenL xs)) H')) :
    StepsV P B (Instr.box t vx) w I ι H Q := by
  obtain ⟨h1, h2⟩ := rep_cells hx hl
  obtain ⟨I1, H1, xs, s1, l1, d1, hq⟩ := wdatas_ok x.cells r (vs := vx.cells.toList) (by simpa using h1) (fun k hk => by
    have := (h2 k hk).1
    simpa [Array.getD_eq_getD_getElem?, List.getD_eq_getElem?_getD] using this) h
  have hnew := heap_alloc_new w (.cells vx.cells t)
  have hsz : w.heap.size < (w.alloc (.cells vx.cells t)).heap.size := (Array.getElem?_eq_some_iff.1 hnew).1
  obtain ⟨g1, g2⟩ := s1.1.growJ (w' := w.alloc (.cells vx.cells t)) (J := fun b k => I1 b k ∨ b = w.heap.size) (Below.new _ _ (fun _ h => h)) (fun b k h => .inl h) (fun b k hb h => h.resolve_right (by omega)) (fun b k h => by
    rcases h with h | h
    · have := s1.1.imm b k h; omega
    · omega)
  have hp : RepA (w.alloc (.cells vx.cells t)) (fun b k => I1 b k ∨ b = w.heap.size) ι H1 (.pointer (some ⟨w.heap.size, 0 + 0, none⟩)) (.iptr (fun _ q => getL xs q .nilp) 0 0 (lenL xs)) := by
    refine .iptr w.heap.size 0 _ 0 0 _ (fun q => vx.cells.getD q undef) (fun q hq => ⟨.inr rfl, ?_⟩) (fun q hq => ?_)
    · rw [lenL_eq] at hq
      unfold World.cell?
      rw [hnew]
      have : q < vx.cells.size := by omega
      simp [this, Array.getD_eq_getD_getElem?]
    · rw [lenL_eq] at hq
      have := (d1 q (by omega)).mono g2.same g2.imm
      rw [getL_eq]
      simpa [Array.getD_eq_getD_getElem?, List.getD_eq_getElem?_getD] using this
  exact ⟨_, _, w.alloc (.cells vx.cells t), _, _, _, by simp [Instr.box, newVar, newRow], hq, hp, g1, s1.2.trans g2, Below.new _ _ r.base⟩
theorem zeroCells_size (z : Array Value) (n : Nat) : (Builtin.zeroCells z n).size = n * z.size := by simp [Builtin.zeroCells]

theorem getD_append (a b : Array Value) (k : Nat) : (a ++ b).getD k undef = if k < a.size then a.getD k undef else b.getD (k - a.size) undef := by
  simp only [Array.getD_eq_getD_getElem?, Array.getElem?_append]
  split <;> rfl

theorem noInt_ok (hT : TabOk P T) {t2 : Nat} (h : noInt (T.ti t2) = true) : P.underlying t2 = some .string ∨ ∃ e', P.underlying t2 = some (.slice e') := by
  unfold noInt at h
  split at h
  · rename_i e _ _ _ hti
    obtain ⟨d, h1, h2⟩ := (hT.ti _ _ hti).und
    obtain rfl := kindOf_slice h2
    exact .inr ⟨_, h1⟩
  · rename_i hti
    obtain ⟨d, h1, h2⟩ := (hT.ti _ _ hti).und
    obtain rfl := kindOf_string h2
    exact .inl h1
  · cases h

set_option maxHeartbeats 800000 in
theorem wappend_ok (hT : TabOk P T) {t t2 : Nat} {x y : A} {vx vy : Value} {Q : A → AHeap → Prop} (r : Rel B ι I w H) (hx : RepA w I ι H vx x) (hy : RepA w I ι H vy y) (h : wappend T t t2 x y H Q) (ty : TypeId) :
    StepsV P B (Builtin.append_ #[t, t2] ty #[vx, vy]) w I ι H Q := by
  unfold wappend at h
  split at h
  · rename_i e _ _ _ hti
    obtain ⟨d, hu, hd⟩ := (hT.ti _ _ hti).und
    obtain rfl := kindOf_slice hd
    split at h
    · rename_i te hte
      have hTe := hT.ti _ _ hte
      obtain ⟨ht2, h1, h2, h⟩ := h
      have ht2 := noInt_ok hT ht2
      simp only [Nat.ble_eq] at h1 h2
      obtain ⟨inf, z, hi, hi1, hi2, hz, hz1, hz2⟩ := hTe.info
      obtain ⟨m, get', sz', h, hsrc⟩ := wsrc_ok (P := P) r hy h
      obtain ⟨hs', h⟩ := h
      simp only [Nat.beq_eq, eqN_eq] at hs'
      obtain ⟨news, q1, q2, q3⟩ := hsrc inf.size (by rw [hi1]; exact hs')
      rw [hi1] at q2
      have hnsz : news.size = m * te.size := by rw [q1.size, hi1]
      have hcellEq : ∀ i j, i < m → j < te.size → i * te.size + j < news.size := fun i j hi hj => by
        have : (i + 1) * te.size ≤ m * te.size := Nat.mul_le_mul_right _ hi
        rw [Nat.add_mul] at this; omega
      split at h
      · -- the nil slice
        cases hx
        obtain ⟨h3, h4⟩ := h
        simp only [leN_eq] at h3
        rw [lenL_eq] at h4
        by_cases hm : m = 0
        · subst hm
          have hrun := run_append_none (P := P) (w := w) (ty := ty) (sCap := 0) hu ht2 hi q1 (sLen := 0) (Nat.le_refl _)
          have g := Goes.new (w := w) (w' := w) (fun _ _ => rfl) r.imm ι H (.arr 0 te.size get' 0) none
          refine ⟨.slice none 0 0, _, w, I, _, _, hrun, h4, ?_, ?_, g, .refl _ _⟩
          · refine .ref _ _ _ _ _ (by simp) (fun n' sz'' get'' fz' h _ => ?_) ⟨_, _, rfl⟩
            rw [List.getElem?_append_right (Nat.le_refl _)] at h
            simp at h
            obtain ⟨rfl, rfl, rfl, rfl⟩ := h
            exact ⟨by omega, fun _ => .inr (.inl ⟨by simp [updι], rfl, rfl⟩)⟩
          · refine r.new (Nat.le_refl _) (fun _ _ => rfl) _ _ (fun b' e => by cases e) ?_
            exact ⟨Nat.zero_le _, .inr ⟨by simp [updι], rfl⟩⟩
        · have hbytes : (0 + m) * inf.bytes ≤ 140737488355328 := by
            rw [hi2, Nat.zero_add]
            exact Nat.le_trans (Nat.mul_le_mul h3 h2) (by omega)
          obtain ⟨c, hc1, hrun⟩ := run_append_grows (P := P) (w := w) (ty := ty) (base := none) (sLen := 0) (sCap := 0) (olds := #[]) hu ht2 hi hz q1 ⟨fun _ => rfl, fun _ _ => by simp [Builtin.firstCells], by simp⟩ (by omega) (by omega) hbytes
          obtain ⟨k1, k2, k3⟩ := arr_ok (vs := #[] ++ news ++ Builtin.zeroCells z.cells (c - (0 + m))) (el := e) (n := m) (sz := te.size) (get := get') r (w' := w.drew.alloc (.cells (#[] ++ news ++ Builtin.zeroCells z.cells (c - (0 + m))) e)) rfl (Below.allocw (.inr rfl) r.base)
            (by simp [hnsz]) (fun i j hi hj => by
              have := hcellEq i j hi hj
              rw [getD_append, if_pos (by simpa using this)]
              simpa using q2 i j hi hj) (cap := c) (by omega) (by
              simp only [Array.size_append, zeroCells_size, hz2, hnsz]
              simp
              rw [← Nat.add_mul]; exact Nat.mul_le_mul_right _ (by omega))
          simp only [Nat.zero_add] at hrun k1 k2 k3
          exact ⟨_, _, _, I, _, _, hrun, h4, k1, k2, k3, Below.allocw (.inr rfl) r.base⟩
      · -- an own slice
        rename_i o off len sz hold0
        clear hold0
        simp only [getL_eq] at h
        split at h
        · rename_i n sz2 get fz hob
          obtain ⟨h3, h4, h5, h6, h7, h8, h9⟩ := h
          simp only [Nat.beq_eq] at h3 h4 h5
          simp only [eqN_eq, leN_eq, addN_eq] at h6 h7 h8
          subst h3 h4 h5 h6
          have hob := getD_obj hob (by simp)
          rw [setL_eq] at h9
          simp only [addN_eq] at h9
          obtain ⟨hfz, hobj⟩ := r.obj o _ hob
          cases hx with | ref _ _ _ _ _ ho hr hlen =>
          obtain ⟨-, hok⟩ := hr len te.size get fz hob rfl
          have hoklen := hok (by omega)
          -- what may hold of the new object
          have hbytes : (len + m) * inf.bytes ≤ 140737488355328 := by
            rw [hi2]
            exact Nat.le_trans (Nat.mul_le_mul h8 h2) (by omega)
          -- the growth: a new block
          have grow : ∀ (base : Option Addr) (sCap : Nat) (olds : Array Value), vx = .slice base len sCap → sCap < len + m → Src P w (.slice base len sCap) len inf.size olds → (∀ i j, i < len → j < te.size → RepD w I (olds.getD (i * te.size + j) undef) (get i j)) →
              StepsV P B (Builtin.append_ #[t, t2] ty #[vx, vy]) w I ι H Q := by
            intro base sCap olds hvx hg hsrc0 hold
            subst hvx
            obtain ⟨c, hc1, hrun⟩ := run_append_grows (P := P) (w := w) (ty := ty) hu ht2 hi hz q1 hsrc0 hg (by omega) hbytes
            have hosz : olds.size = len * te.size := by rw [hsrc0.size, hi1]
            let vs := olds ++ news ++ Builtin.zeroCells z.cells (c - (len + m))
            let w' := w.drew.alloc (.cells vs e)
            have hbl := fun b (h : b < w.heap.size) => (show w'.heap[b]? = w.heap[b]? from heap_alloc_eq w.drew (.cells vs e) b h)
            have hnew : w'.heap[w.heap.size]? = some (.cells vs e) := heap_alloc_new w.drew _
            have hvsz : vs.size = c * te.size := by
              simp only [vs, Array.size_append, zeroCells_size, hz2, hnsz, hosz]
              rw [← Nat.add_mul, ← Nat.add_mul]; congr 1; omega
            have hsz : w.heap.size ≤ w'.heap.size := by show _ ≤ (w.heap.push _).size; simp
            have hsame : Same I w w' := fun b k hk => by unfold World.cell?; rw [hbl b (r.imm b k hk)]
            have hgr : Grow w w' := fun b vs0 el0 fr0 hb => ⟨vs0, el0, fr0, (hbl b (lt_of_heap hb)).trans hb, rfl⟩
            have hmpos : 0 < m ∨ m = 0 := by omega
            let ι' := updι ι o (some w.heap.size)
            have hlm : m = 0 → False := fun hm => by
              rcases hoklen with ⟨b, cap, vs1, el1, fr1, e1, e2, e3, e4, e5⟩ | ⟨e1, e2, e3⟩ | ⟨a, e1, e2, e3⟩
              · cases e2; omega
              · cases e2; omega
              · cases e1; omega
            have g : Goes w w' I I ι ι' H (H.set o (.arr (len + m) te.size (appG len get get') fz)) :=
              { same := hsame, imm := fun _ _ h => h, len := by simp
                ref := fun o' off' len' sz'' v ho' hx' n' sz3 get3 fz3 hh hs3 => by
                  rcases set_cases hh with ⟨rfl, he⟩ | ⟨hne, hh⟩
                  · cases he
                    have := (hx' len te.size get fz hob hs3).1
                    exact ⟨by omega, fun e => (hlm (by omega)).elim⟩
                  · obtain ⟨g1, g2⟩ := hx' n' sz3 get3 fz3 hh hs3
                    exact ⟨g1, fun e => (g2 e).grow hgr (by simp [ι', updι, hne])⟩
                ptr := fun o' cs ho' hh hbx => by
                  rcases set_cases hh with ⟨rfl, he⟩ | ⟨hne, hh⟩
                  · cases he; exact hbx.elim
                  · exact ⟨⟨cs, hh, hbx⟩, by simp [ι', updι, hne]⟩
                eptr := fun o' n' sz3 get3 fz3 ho' hh => by
                  rcases set_cases hh with ⟨rfl, he⟩ | ⟨hne, hh⟩
                  · cases he
                    exact ⟨len, get, fz, hob, by omega, fun e => (hlm (by omega)).elim⟩
                  · exact ⟨n', get3, fz3, hh, Nat.le_refl _, fun _ => by simp [ι', updι, hne]⟩
                itr := fun o' s p ho' hh => by
                  rcases set_cases hh with ⟨rfl, he⟩ | ⟨hne, hh⟩
                  · cases he
                  · exact ⟨⟨s, p, hh⟩, by simp [ι', updι, hne]⟩ }
            have hidx : ∀ i j, i < len + m → j < te.size → i * te.size + j < (len + m) * te.size := fun i j hi hj => by
              have : (i + 1) * te.size ≤ (len + m) * te.size := Nat.mul_le_mul_right _ hi
              rw [Nat.add_mul, Nat.one_mul] at this; omega
            have hcm : (len + m) * te.size ≤ c * te.size := Nat.mul_le_mul_right _ hc1
            have hrel : Rel B ι' I w' (H.set o (.arr (len + m) te.size (appG len get get') fz)) := by
              refine r.upd hob hsz g (fun o' hne => by simp [ι', updι, hne]) (fun o' y c hne hy hl hc => ⟨hbl c ((r.obj o' y hy).lt hl hc).2, fun _ h => h⟩) (fun b k hk => Nat.lt_of_lt_of_le (r.imm b k hk) hsz) ?_ (fun o' y c hne hy hl hc e => ?_)
              · refine ⟨by omega, .inl ⟨w.heap.size, vs, e, (0, 0), by simp [ι', updι], r.fresh, hnew, by omega, fun i j hi hj => ?_, fun k _ hk => ?_, fun k _ => ?_⟩⟩
                · have hlt := hidx i j hi hj
                  simp only [vs]
                  rw [getD_append, if_pos (by simp only [Array.size_append, hosz, hnsz]; rw [← Nat.add_mul]; exact hlt), getD_append]
                  by_cases hil : i < len
                  · have : (i + 1) * te.size ≤ len * te.size := Nat.mul_le_mul_right _ hil
                    rw [Nat.add_mul, Nat.one_mul] at this
                    rw [if_pos (by omega)]
                    simp only [appG_eq, if_pos hil]
                    exact (hold i j hil hj).mono g.same g.imm
                  · have : len * te.size ≤ i * te.size := Nat.mul_le_mul_right _ (by omega)
                    rw [if_neg (by omega)]
                    simp only [appG_eq, if_neg hil]
                    have := (q2 (i - len) j (by omega) hj).mono g.same g.imm
                    rwa [Nat.sub_mul, show i * te.size - len * te.size + j = i * te.size + j - olds.size by omega] at this
                · exact absurd (r.imm _ _ hk) (Nat.lt_irrefl _)
                · unfold World.frozen?; rw [hnew]; simp
              · have := ((r.obj o' y hy).lt hl hc).2
                have e : ι' o = some c := e
                simp [ι', updι] at e
                omega
            refine ⟨.slice (some ⟨w.heap.size, 0, none⟩) (len + m) c, _, w', I, ι', _, hrun, h9, ?_, hrel, g, Below.allocw (.inr rfl) r.base⟩
            refine .ref _ _ _ _ _ (by simpa using ho) (fun n' sz3 get3 fz3 hh _ => ?_) ⟨_, _, rfl⟩
            rw [List.getElem?_set_self (by simpa using ho)] at hh
            cases hh
            exact ⟨by omega, fun _ => .inl ⟨w.heap.size, c, vs, e, (0, 0), by simp [ι', updι], by simp, hnew, by simp; omega, hc1⟩⟩
          rcases hoklen with ⟨b, cap, vs, el, fr, e1, e2, e3, e4, e5⟩ | ⟨e1, e2, e3⟩ | ⟨a, e1, e2, e3⟩
          · rw [Nat.zero_mul] at e2
            rw [Nat.zero_add] at e4
            subst e2
            rcases hobj with ⟨b', vs', el', fr', g1, g2, g3, g4, g5, g6⟩ | ⟨g1, g2⟩
            · obtain rfl : b = b' := by rw [e1] at g1; exact Option.some.inj g1
              rw [e3] at g3
              cases g3
              by_cases hg : len + m ≤ cap
              · -- in place
                have hroom : len * te.size + news.size ≤ vs.size := by
                  rw [hnsz, ← Nat.add_mul]; exact Nat.le_trans (Nat.mul_le_mul_right _ hg) e4
                have hfzl : fz * te.size ≤ len * te.size := Nat.mul_le_mul_right _ h7
                have hrun := run_append_fits (P := P) (w := w) (ty := ty) (b := b) (o := 0) hu ht2 hi q1 hg (fun j hj => by
                    rw [hi1, cell_of_block e3 (by omega)]; rfl) (fun j hj => by rw [hi1]; exact g6.2 _ (by omega)) q3
                simp only [hi1, Nat.zero_add] at hrun
                have hnl : news.toList.length = news.size := by simp
                obtain ⟨vs', p1, p2, p3⟩ := setCells_heap b news.toList (len * te.size) w vs el fr e3 (by omega)
                have hsame : Same I w (w.setCells b (len * te.size) news.toList) := fun c k hc => by
                  by_cases e : c = b
                  · subst e
                    have hk : ¬ fz * te.size ≤ k := fun h => g6.1 k h hc
                    exact World.cell?_setCells_out c _ _ _ _ (fun _ _ => .inl (show k < len * te.size by omega))
                  · unfold World.cell?; rw [setCells_other _ _ _ _ _ e]
                have hgr := setCells_grow b news.toList (len * te.size) w e3 (by omega)
                have g : Goes w (w.setCells b (len * te.size) news.toList) I I ι ι H (H.set o (.arr (len + m) te.size (appG len get get') fz)) :=
                  { same := hsame, imm := fun _ _ h => h, len := by simp
                    ref := fun o' off' len' sz'' v ho' hx' n' sz3 get3 fz3 hh hs3 => by
                      rcases set_cases hh with ⟨rfl, he⟩ | ⟨hne, hh⟩
                      · cases he
                        obtain ⟨k1, k2⟩ := hx' len te.size get fz hob hs3
                        exact ⟨by omega, fun e => (k2 (by omega)).grow hgr rfl⟩
                      · obtain ⟨k1, k2⟩ := hx' n' sz3 get3 fz3 hh hs3
                        exact ⟨k1, fun e => (k2 e).grow hgr rfl⟩
                    ptr := fun o' cs ho' hh hbx => by
                      rcases set_cases hh with ⟨rfl, he⟩ | ⟨hne, hh⟩
                      · cases he; exact hbx.elim
                      · exact ⟨⟨cs, hh, hbx⟩, rfl⟩
                    eptr := fun o' n' sz3 get3 fz3 ho' hh => by
                      rcases set_cases hh with ⟨rfl, he⟩ | ⟨hne, hh⟩
                      · cases he
                        exact ⟨len, get, fz, hob, by omega, fun e => rfl⟩
                      · exact ⟨n', get3, fz3, hh, Nat.le_refl _, fun _ => rfl⟩
                    itr := fun o' s p ho' hh => by
                      rcases set_cases hh with ⟨rfl, he⟩ | ⟨hne, hh⟩
                      · cases he
                      · exact ⟨⟨s, p, hh⟩, rfl⟩ }
                have hrel : Rel B ι I (w.setCells b (len * te.size) news.toList) (H.set o (.arr (len + m) te.size (appG len get get') fz)) := by
                  refine r.upd hob (by rw [setCells_size]; exact Nat.le_refl _) g (fun _ _ => rfl) (fun o' y c hne hy hl hc => ⟨setCells_other _ _ _ _ _ (r.ne hob hy trivial hl e1 hc hne), fun k hk => hk⟩) (fun c k hk => by rw [setCells_size]; exact r.imm c k hk) ?_
                    (fun o' y c hne hy hl hc e => r.ne hob hy trivial hl e1 hc hne (by have e : ι _ = some _ := e; rw [e1] at e; exact (Option.some.inj e).symm))
                  refine ⟨by omega, .inl ⟨b, vs', el, fr, e1, g2, p1, by rw [p2, Nat.add_mul]; omega, fun i j hi hj => ?_, g6.1, fun k hk => by rw [World.frozen?_setCells]; exact g6.2 k hk⟩⟩
                  rw [p3]
                  by_cases hil : i < len
                  · have : (i + 1) * te.size ≤ len * te.size := Nat.mul_le_mul_right _ hil
                    rw [Nat.add_mul, Nat.one_mul] at this
                    rw [if_neg (by omega)]
                    simp only [appG_eq, if_pos hil]
                    exact (g5 i j hil hj).mono g.same g.imm
                  · have h1' : len * te.size ≤ i * te.size := Nat.mul_le_mul_right _ (by omega)
                    have h2' := hcellEq (i - len) j (by omega) hj
                    rw [Nat.sub_mul] at h2'
                    rw [if_pos (by omega)]
                    simp only [appG_eq, if_neg hil]
                    have := (q2 (i - len) j (by omega) hj).mono g.same g.imm
                    rw [Nat.sub_mul, show i * te.size - len * te.size + j = i * te.size + j - len * te.size by omega] at this
                    simpa [Array.getD_eq_getD_getElem?, List.getD_eq_getElem?_getD] using this
                refine ⟨.slice (some ⟨b, 0, none⟩) (len + m) cap, _, _, I, ι, _, ?_, h9, ?_, hrel, g, setCells_below b g2 _ _ _⟩
                · simpa using hrun
                · refine .ref _ _ _ _ _ (by simpa using ho) (fun n' sz3 get3 fz3 hh _ => ?_) ⟨_, _, rfl⟩
                  rw [List.getElem?_set_self (by simpa using ho)] at hh
                  cases hh
                  exact ⟨by omega, fun _ => .inl ⟨b, cap, vs', el, fr, e1, by simp, p1, by rw [p2]; simpa using e4, hg⟩⟩
              · -- it grows
                have hcell : ∀ k, k < len * te.size → w.cell? ⟨b, k, none⟩ = some (vs.getD k undef) := fun k hk => cell_of_block e3 (by omega)
                have hfirst : ∀ w', w'.heap = w.heap → (Builtin.firstCells inf.size len (.slice (some ⟨b, 0, none⟩) len cap)).run P w' = .ok ((List.range (len * te.size)).map fun k => vs.getD k undef).toArray w' := fun w' hw => by
                  rw [hi1]
                  refine run_firstCells_some (P := P) w' te.size len ⟨b, 0, none⟩ len cap ((List.range (len * te.size)).map fun k => vs.getD k undef) (by simp) (fun j v hj => ?_)
                  have hjl : j < len * te.size := by
                    have := (List.getElem?_eq_some_iff.1 hj).1
                    simpa using this
                  rw [Addr.add_mid, Nat.zero_add]
                  have e : w'.cell? ⟨b, j, none⟩ = w.cell? ⟨b, j, none⟩ := by unfold World.cell?; rw [hw]
                  rw [e, hcell j hjl]
                  simpa [hjl] using hj
                have hsrc0 : Src P w (.slice (some ⟨b, 0, none⟩) len cap) len inf.size ((List.range (len * te.size)).map fun k => vs.getD k undef).toArray := ⟨fun _ => rfl, hfirst, by simp [hi1]⟩
                refine grow (some ⟨b, 0, none⟩) cap _ rfl (by omega) hsrc0 (fun i j hi hj => ?_)
                have hlt : i * te.size + j < len * te.size := by
                  have : (i + 1) * te.size ≤ len * te.size := Nat.mul_le_mul_right _ hi
                  rw [Nat.add_mul, Nat.one_mul] at this; omega
                have e : (((List.range (len * te.size)).map fun k => vs.getD k undef).toArray).getD (i * te.size + j) undef = vs.getD (i * te.size + j) undef := by
                  simp [Array.getD_eq_getD_getElem?, hlt]
                rw [e]; exact g5 i j hi hj
            · rw [g1] at e1; cases e1
          · -- the object has no block yet
            subst e2
            subst e3
            by_cases hm : m = 0
            · subst hm
              have hrun := run_append_none (P := P) (w := w) (ty := ty) (sCap := 0) hu ht2 hi q1 (sLen := 0) (Nat.le_refl _)
              simp only [Nat.add_zero] at h9 hrun
              have g : Goes w w I I ι ι H (H.set o (.arr 0 te.size (appG 0 get get') fz)) := Goes.set (fun _ _ _ => rfl) (fun _ _ h => h) (Grow.refl w) hob ⟨rfl, rfl⟩
              have hrel : Rel B ι I w (H.set o (.arr 0 te.size (appG 0 get get') fz)) := r.upd hob (Nat.le_refl _) g (fun _ _ => rfl) (fun o' y c hne hy hl hc => ⟨rfl, fun k hk => hk⟩) r.imm ⟨by omega, .inr ⟨e1, rfl⟩⟩ (fun o' y c hne hy hl hc e => by have e : ι _ = some _ := e; rw [e1] at e; cases e)
              refine ⟨_, _, w, I, ι, _, hrun, h9, ?_, hrel, g, .refl _ _⟩
              refine .ref _ _ _ _ _ (by simpa using ho) (fun n' sz3 get3 fz3 hh _ => ?_) ⟨_, _, rfl⟩
              rw [List.getElem?_set_self (by simpa using ho)] at hh
              cases hh
              exact ⟨by omega, fun _ => .inr (.inl ⟨e1, rfl, rfl⟩)⟩
            · exact grow none 0 #[] rfl (by omega) ⟨fun _ => rfl, fun _ _ => by simp [Builtin.firstCells], by simp⟩ (fun i j hi => by omega)
          · exact absurd rfl e3
        · exact h.elim
      · exact h.elim
    · exact h.elim
  · exact h.elim

end Go.VM
