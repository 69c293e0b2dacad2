/- An object changes: freezing, stores. -/
import Derived.Test.YtcpdnjehmnbheaaDoorVE
set_option linter.unusedSimpArgs false
set_option linter.unusedVariables false
set_option linter.unusedSectionVars false
namespace Go.VM
open Ops
variable [Ops] [Glb] [Lim]
open Go.RowKit (Below)

variable {P : Program} {T : Tab} {B : Nat} {ι : Nat → Option Nat} {I : Nat → Nat → Prop} {w : World} {H : AHeap}

theorem getD_obj {H : AHeap} {o : Nat} {x : AObj} (h : H.getD o .dead = x) (hx : x ≠ .dead) : H[o]? = some x := by
  rw [List.getD_eq_getElem?_getD] at h
  cases hy : H[o]? with
  | none => simp [hy] at h; exact absurd h.symm hx
  | some y => simp [hy] at h; rw [h]

/-- An object keeps its kind (and its length). -/
def Like : AObj → AObj → Prop
  | .box _, .box _ => True
  | .arr n sz _ _, .arr n' sz' _ _ => n = n' ∧ sz = sz'
  | .iter _ _, .iter _ _ => True
  | _, _ => False

theorem set_cases {H : AHeap} {o o' : Nat} {x y : AObj} (h : (H.set o x)[o']? = some y) : (o' = o ∧ y = x) ∨ (o' ≠ o ∧ H[o']? = some y) := by
  by_cases e : o' = o
  · subst e
    have hl := (List.getElem?_eq_some_iff.1 h).1
    rw [List.getElem?_set_self (by simpa using hl)] at h
    exact .inl ⟨rfl, (Option.some.inj h).symm⟩
  · rw [List.getElem?_set_ne (Ne.symm e)] at h
    exact .inr ⟨e, h⟩

theorem Goes.set {w' : World} {I' : Nat → Nat → Prop} (hs : Same I w w') (hi : ∀ b k, I b k → I' b k) (hg : Grow w w') {o : Nat} {x x' : AObj} (hx : H[o]? = some x) (hk : Like x x') : Goes w w' I I' ι ι H (H.set o x') where
  same := hs
  imm := hi
  len := by simp
  ref := fun o' off len sz v ho h n sz' get fz h1 h2 => by
    rcases set_cases h1 with ⟨rfl, rfl⟩ | ⟨-, h1⟩
    · cases x <;> simp [Like] at hk
      rename_i n' s' g' f'
      obtain ⟨rfl, rfl⟩ := hk
      obtain ⟨h3, h4⟩ := h n' s' g' f' hx h2
      exact ⟨h3, fun e => (h4 e).grow hg rfl⟩
    · obtain ⟨h3, h4⟩ := h n sz' get fz h1 h2
      exact ⟨h3, fun e => (h4 e).grow hg rfl⟩
  ptr := fun o' cs ho h1 => by
    rcases set_cases h1 with ⟨rfl, rfl⟩ | ⟨-, h1⟩
    · cases x <;> simp [Like] at hk
      exact ⟨⟨_, hx⟩, rfl⟩
    · exact ⟨⟨_, h1⟩, rfl⟩
  eptr := fun o' n sz get fz ho h1 => by
    rcases set_cases h1 with ⟨rfl, rfl⟩ | ⟨-, h1⟩
    · cases x <;> simp [Like] at hk
      obtain ⟨rfl, rfl⟩ := hk
      exact ⟨_, _, _, hx, Nat.le_refl _, fun _ => rfl⟩
    · exact ⟨_, _, _, h1, Nat.le_refl _, fun _ => rfl⟩
  itr := fun o' s p ho h1 => by
    rcases set_cases h1 with ⟨rfl, rfl⟩ | ⟨-, h1⟩
    · cases x <;> simp [Like] at hk
      exact ⟨⟨_, _, hx⟩, rfl⟩
    · exact ⟨⟨_, _, h1⟩, rfl⟩

theorem Rel.upd {w' : World} {I' : Nat → Nat → Prop} {ι' : Nat → Option Nat} (r : Rel B ι I w H) {o : Nat} {x x' : AObj} (hx : H[o]? = some x) (hsz : w.heap.size ≤ w'.heap.size)
    (g : Goes w w' I I' ι ι' H (H.set o x')) (hι : ∀ o', o' ≠ o → ι' o' = ι o')
    (hb : ∀ o' y c, o' ≠ o → H[o']? = some y → y.live → ι o' = some c → w'.heap[c]? = w.heap[c]? ∧ ∀ k, I' c k → I c k)
    (himm : ∀ b k, I' b k → b < w'.heap.size) (hnew : ObjOk B ι' I' w' (H.set o x') o x')
    (hinj : ∀ o' y c, o' ≠ o → H[o']? = some y → y.live → ι o' = some c → ι' o ≠ some c) (hlow : ∀ b k, b < B → I' b k → I b k := by exact fun _ _ _ h => h) : Rel B ι' I' w' (H.set o x') where
  base := Nat.le_trans r.base hsz
  imm := himm
  low := fun b k hb hk => r.low b k hb (hlow b k hb hk)
  glob := g.glob r.glob
  obj := fun o' y hy => by
    rcases set_cases hy with ⟨rfl, rfl⟩ | ⟨e, hy⟩
    · exact hnew
    · by_cases hl : y.live
      · exact (r.obj o' y hy).keep g (hι o' e) (fun b hi => (hb o' y b e hy hl hi).1) (fun b k hi => (hb o' y b e hy hl hi).2 k)
      · cases y <;> first | trivial | exact (hl trivial).elim
  inj := fun o1 o2 y1 y2 c h1 h2 l1 l2 e1 e2 => by
    rcases set_cases h1 with ⟨p1, -⟩ | ⟨p1, h1⟩ <;> rcases set_cases h2 with ⟨p2, -⟩ | ⟨p2, h2⟩
    · rw [p1, p2]
    · rw [hι o2 p2] at e2
      rw [p1] at e1
      exact absurd e1 (hinj o2 y2 c p2 h2 l2 e2)
    · rw [hι o1 p1] at e1
      rw [p2] at e2
      exact absurd e2 (hinj o1 y1 c p1 h1 l1 e1)
    · rw [hι o1 p1] at e1
      rw [hι o2 p2] at e2
      exact r.inj o1 o2 y1 y2 c h1 h2 l1 l2 e1 e2

/-- blocks of two live objects are two -/
theorem Rel.ne (r : Rel B ι I w H) {o o' : Nat} {x y : AObj} {b c : Nat} (hx : H[o]? = some x) (hy : H[o']? = some y) (lx : x.live) (ly : y.live) (e : ι o = some b) (e' : ι o' = some c) (h : o' ≠ o) : c ≠ b := fun ec => by
  subst ec
  exact h (r.inj o' o y x c hy hx ly lx e' e)

/-! ### Freezing -/
/-- a state that goes on without a step of the world -/
def Stay (B : Nat) (w : World) (I : Nat → Nat → Prop) (ι : Nat → Option Nat) (H : AHeap) (I' : Nat → Nat → Prop) (H' : AHeap) : Prop := Rel B ι I' w H' ∧ Goes w w I I' ι ι H H'

theorem freeze_ok (r : Rel B ι I w H) {o n sz : Nat} {get : Nat → Nat → D} {fz : Nat} (hx : H[o]? = some (.arr n sz get fz)) :
    ∃ I', Stay B w I ι H I' (H.set o (.arr n sz get n)) ∧ (∀ b, ι o = some b → ∀ k, k < n * sz → I' b k) := by
  obtain ⟨hfz, hob⟩ := r.obj o _ hx
  rcases hob with ⟨b, vs, el, fr, e1, e2, e3, e4, e5, e6⟩ | ⟨e1, e2⟩
  · refine ⟨fun c k => I c k ∨ (c = b ∧ k < n * sz), ⟨?_, ?_⟩, fun b' hb' k hk => .inr ⟨?_, hk⟩⟩
    · have g : Goes w w I (fun c k => I c k ∨ (c = b ∧ k < n * sz)) ι ι H (H.set o (.arr n sz get n)) := Goes.set (fun _ _ _ => rfl) (fun _ _ h => .inl h) (Grow.refl w) hx ⟨rfl, rfl⟩
      refine r.upd hx (Nat.le_refl _) g (fun _ _ => rfl) (fun o' y c hne hy hl hc => ⟨rfl, fun k hk => ?_⟩) (fun c k hk => ?_) ?_ (fun o' y c hne hy hl hc e => ?_) (fun c k hc hk => hk.resolve_right fun h => absurd hc (by rw [h.1]; omega))
      · exact hk.resolve_right (fun h => r.ne hx hy trivial hl e1 hc hne h.1)
      · rcases hk with hk | ⟨rfl, _⟩
        · exact r.imm c k hk
        · exact lt_of_heap e3
      · refine ⟨Nat.le_refl _, .inl ⟨b, vs, el, fr, e1, e2, e3, e4, fun i j hi hj => (e5 i j hi hj).mono (fun _ _ _ => rfl) (fun _ _ h => .inl h), fun k hk hc => ?_, fun k hk => e6.2 k ?_⟩⟩
        · have : fz * sz ≤ n * sz := Nat.mul_le_mul_right _ hfz
          rcases hc with hc | hc
          · exact e6.1 k (by omega) hc
          · omega
        · have : fz * sz ≤ n * sz := Nat.mul_le_mul_right _ hfz
          omega
      · exact r.ne hx hy trivial hl e1 hc hne (by rw [e1] at e; exact (Option.some.inj e).symm)
    · exact Goes.set (fun _ _ _ => rfl) (fun _ _ h => .inl h) (Grow.refl w) hx ⟨rfl, rfl⟩
    · rw [e1] at hb'; exact (Option.some.inj hb').symm
  · refine ⟨I, ⟨?_, Goes.set (fun _ _ _ => rfl) (fun _ _ h => h) (Grow.refl w) hx ⟨rfl, rfl⟩⟩, fun b' hb' => by rw [e1] at hb'; cases hb'⟩
    refine r.upd hx (Nat.le_refl _) (Goes.set (fun _ _ _ => rfl) (fun _ _ h => h) (Grow.refl w) hx ⟨rfl, rfl⟩) (fun _ _ => rfl) (fun o' y c hne hy hl hc => ⟨rfl, fun k hk => hk⟩) r.imm ⟨Nat.le_refl _, .inr ⟨e1, e2⟩⟩ (fun o' y c hne hy hl hc e => by rw [e1] at e; cases e)

/-- an own slice reads as data where its cells cannot change -/
theorem ref_data (r : Rel B ι I w H) {o off len sz n : Nat} {get : Nat → Nat → D} {fz : Nat} {v : Value} (hx : H[o]? = some (.arr n sz get fz)) (hv : RepA w I ι H v (.ref o off len sz)) (he : off + len = n)
    (hI : ∀ b, ι o = some b → ∀ k, k < n * sz → I b k) : RepD w I v (.sl len sz (offG off get)) := by
  cases hv with | ref _ _ _ _ _ ho h hlen =>
  obtain ⟨-, hok⟩ := h n sz get fz hx rfl
  rcases hok he with ⟨b, cap, vs, el, fr, h1, rfl, h3, h4, h5⟩ | ⟨h1, rfl, rfl⟩ | ⟨a, rfl, rfl, h⟩
  · obtain ⟨-, hob⟩ := r.obj o _ hx
    rcases hob with ⟨b', vs', el', fr', e1, e2, e3, e4, e5, e6⟩ | ⟨e1, e2⟩
    · obtain rfl : b = b' := by rw [h1] at e1; exact Option.some.inj e1
      have hlt : ∀ i j, i < len → j < sz → off * sz + (i * sz + j) < n * sz := fun i j hi hj => by
        have : (off + i + 1) * sz ≤ n * sz := Nat.mul_le_mul_right _ (by omega)
        simp only [Nat.add_mul, Nat.one_mul] at this
        omega
      refine .sl b (off * sz) len cap sz _ (fun i j => vs'.getD (off * sz + (i * sz + j)) undef) h5 (fun i j hi hj => ⟨hI b h1 _ (hlt i j hi hj), cell_of_block e3 (by have := hlt i j hi hj; omega)⟩) (fun i j hi hj => ?_)
      have := e5 (off + i) j (by omega) hj
      rw [offG_eq]
      rwa [show (off + i) * sz + j = off * sz + (i * sz + j) by rw [Nat.add_mul]; omega] at this
    · rw [e1] at h1; cases h1
  · exact .sl0 _ _ _ _
  · exact .sl0 _ _ _ _

theorem Stay.refl (r : Rel B ι I w H) : Stay B w I ι H I H := ⟨r, .refl _ _ _ _⟩
theorem Stay.trans {I1 I2 : Nat → Nat → Prop} {H1 H2 : AHeap} (h : Stay B w I ι H I1 H1) (k : Stay B w I1 ι H1 I2 H2) : Stay B w I ι H I2 H2 := ⟨k.1, h.2.trans k.2⟩

theorem wdata_ok (r : Rel B ι I w H) {v : Value} {a : A} (hv : RepA w I ι H v a) {K : D → AHeap → Prop} (h : wdata a H K) :
    ∃ I' H' x, Stay B w I ι H I' H' ∧ RepD w I' v x ∧ K x H' := by
  unfold wdata at h
  split at h
  · cases hv with | d _ _ hd => exact ⟨I, H, _, .refl r, hd, h⟩
  · cases hv; exact ⟨I, H, _, .refl r, .sl0 _ _ _ _, h⟩
  · rename_i o off len sz
    simp only [getL_eq] at h
    split at h
    · rename_i n sz' get fz hx
      obtain ⟨h1, h2, h3⟩ := h
      simp only [Nat.beq_eq, eqN_eq, addO_eq] at h1 h2
      subst h1
      have hx := getD_obj hx (by simp)
      obtain ⟨I', hs, hI⟩ := freeze_ok r hx
      rw [setL_eq] at h3
      exact ⟨I', _, _, hs, ref_data hs.1 (n := n) (fz := n) (by rw [List.getElem?_set_self (List.getElem?_eq_some_iff.1 hx).1]) (hv.goes hs.2) h2 hI, h3⟩
    · exact h.elim
  · exact h.elim

theorem wdatas_ok (as : List A) : ∀ {I : Nat → Nat → Prop} {H : AHeap} (r : Rel B ι I w H) {vs : List Value} (hl : vs.length = as.length) (hv : ∀ k, k < as.length → RepA w I ι H (vs.getD k undef) (as.getD k .undef)) {K : List D → AHeap → Prop} (h : wdatas as H K),
    ∃ I' H' xs, Stay B w I ι H I' H' ∧ xs.length = as.length ∧ (∀ k, k < as.length → RepD w I' (vs.getD k undef) (xs.getD k .nilp)) ∧ K xs H' := by
  induction as with
  | nil =>
    intro I H r vs hl hv K h
    exact ⟨I, H, [], .refl r, rfl, fun k hk => absurd hk (by simp), h⟩
  | cons a as ih =>
    intro I H r vs hl hv K h
    cases vs with
    | nil => simp at hl
    | cons v vs =>
      simp only [wdatas] at h
      obtain ⟨I1, H1, x, s1, d1, h1⟩ := wdata_ok r (by simpa using hv 0 (by simp)) h
      obtain ⟨I2, H2, xs, s2, l2, d2, h2⟩ := ih s1.1 (vs := vs) (by simpa using hl) (fun k hk => by
        have := hv (k + 1) (by simpa using hk)
        simpa using this.goes s1.2) h1
      refine ⟨I2, H2, x :: xs, s1.trans s2, by simp [l2], fun k hk => ?_, h2⟩
      cases k with
      | zero => simpa using d1.mono s2.2.same s2.2.imm
      | succ k => simpa using d2 k (by simpa using hk)

/-! ### Stores -/
theorem setCells_heap (b : Nat) : ∀ (xs : List Value) (o : Nat) (w : World) (vs : Array Value) (el : TypeId) (fr : Nat × Nat), w.heap[b]? = some (.cells vs el fr) → o + xs.length ≤ vs.size →
    ∃ vs', (w.setCells b o xs).heap[b]? = some (.cells vs' el fr) ∧ vs'.size = vs.size ∧ ∀ k, vs'.getD k undef = if o ≤ k ∧ k < o + xs.length then xs.getD (k - o) undef else vs.getD k undef
  | [], o, w, vs, el, fr, h, _ => ⟨vs, h, rfl, fun k => by rw [if_neg (by simp)]⟩
  | x :: xs, o, w, vs, el, fr, h, hl => by
    simp at hl
    have h1 : (w.setCell ⟨b, o, none⟩ x).heap[b]? = some (.cells (vs.setIfInBounds o x) el fr) := by
      simp only [World.setCell, Array.getElem?_modify]
      simp [h]
    obtain ⟨vs', h2, h3, h4⟩ := setCells_heap b xs (o + 1) _ _ el fr h1 (by simp; omega)
    refine ⟨vs', h2, by simpa using h3, fun k => ?_⟩
    rw [h4 k]
    by_cases hk : k = o
    · subst hk
      rw [if_neg (by omega), if_pos (by simp)]
      have hko : k < vs.size := by omega
      simp [Array.getD_eq_getD_getElem?, Array.getElem?_setIfInBounds, hko]
    · by_cases hk2 : o + 1 ≤ k ∧ k < o + 1 + xs.length
      · rw [if_pos hk2, if_pos (by simp; omega)]
        obtain ⟨j, rfl⟩ : ∃ j, k = o + 1 + j := ⟨k - (o + 1), by omega⟩
        rw [show o + 1 + j - (o + 1) = j by omega, show o + 1 + j - o = j + 1 by omega, List.getD_cons_succ]
      · rw [if_neg hk2, if_neg (by simp; omega)]
        simp [Array.getD_eq_getD_getElem?, Array.getElem?_setIfInBounds, Ne.symm hk]

theorem setCells_other (b : Nat) : ∀ (xs : List Value) (o : Nat) (w : World) (c : Nat), c ≠ b → (w.setCells b o xs).heap[c]? = w.heap[c]?
  | [], _, _, _, _ => rfl
  | x :: xs, o, w, c, h => by
    rw [World.setCells, setCells_other b xs (o + 1) _ c h]
    exact Below.heap_setCell _ _ _ _ h

theorem setCells_size (b : Nat) : ∀ (xs : List Value) (o : Nat) (w : World), (w.setCells b o xs).heap.size = w.heap.size
  | [], _, _ => rfl
  | x :: xs, o, w => by
    rw [World.setCells, setCells_size b xs (o + 1) _]
    simp [World.setCell]

theorem setCells_below (b : Nat) (hb : B ≤ b) : ∀ (xs : List Value) (o : Nat) (w : World), Below B w (w.setCells b o xs)
  | [], _, w => .refl _ _
  | x :: xs, o, w => ((Below.refl B w).setCell (p := ⟨b, o, none⟩) hb x).trans (setCells_below b hb xs (o + 1) _)

theorem setCells_grow (b : Nat) (xs : List Value) (o : Nat) (w : World) {vs : Array Value} {el : TypeId} {fr : Nat × Nat} (h : w.heap[b]? = some (.cells vs el fr)) (hl : o + xs.length ≤ vs.size) : Grow w (w.setCells b o xs) := by
  intro c vs' el' fr' hc
  by_cases e : c = b
  · subst e
    obtain ⟨vs2, h2, h3, -⟩ := setCells_heap c xs o w vs el fr h hl
    rw [h] at hc
    cases hc
    exact ⟨vs2, el, fr, h2, h3⟩
  · exact ⟨vs', el', fr', by rw [setCells_other b xs o w c e]; exact hc, rfl⟩

/-- the world's step of a store -/
theorem run_store_ok {t : Nat} {ti : TI} (hti : TIOk P t ti) {v : Value} {b o : Nat} {vs : Array Value} {el : TypeId} {fr : Nat × Nat} (h : w.heap[b]? = some (.cells vs el fr)) (hl : o + v.cells.size ≤ vs.size) (hs : v.cells.size = ti.size)
    (hf : ∀ k, k < v.cells.size → w.frozen? ⟨b, o + k, none⟩ = false) (h1 : ∀ k, k < v.cells.size → (v.cells.getD k undef).oneCell' = true) :
    (Instr.storeAt t (.pointer (some ⟨b, o, none⟩)) v).run P w = .ok () (w.setCells b o v.cells.toList) := by
  have := run_storeCells_cells (P := P) b o v.cells.toList 0 w (fun j hj => by
      rw [Nat.add_zero, cell_of_block h (by simp at hj; omega)]; rfl) (fun j hj => by rw [Nat.add_zero]; exact hf j (by simpa using hj))
    (fun x hx => by
      obtain ⟨k, hk, rfl⟩ := List.getElem_of_mem hx
      have := h1 k (by simpa using hk)
      simp at hk
      simpa [Array.getD_eq_getD_getElem?, hk] using this)
  simp only [Nat.add_zero] at this
  simp [Instr.storeAt, Instr.sureAddr, storeVar, Sem.run_bind, hti.sizeOf w, hs, this]

theorem wstore_ok (hT : TabOk P T) {t : Nat} {p x : A} {vp vx : Value} {K : AHeap → Prop} (r : Rel B ι I w H) (hp : RepA w I ι H vp p) (hx : RepA w I ι H vx x) (h : wstore T t p x H K) :
    ∃ w' I' H', (Instr.storeAt t vp vx).run P w = .ok () w' ∧ K H' ∧ Rel B ι I' w' H' ∧ Goes w w' I I' ι ι H H' ∧ Below B w w' := by
  unfold wstore at h
  split at h
  · exact h.elim
  rename_i ti hti
  have hti := hT.ti _ _ hti
  obtain ⟨hsz, hlf, h⟩ := h
  obtain ⟨hcl, hcr⟩ := rep_cells hx hlf
  have hsz : x.cells.length = ti.size := by simpa [lenL_eq] using hsz
  split at h
  · rename_i o off
    simp only [getL_eq] at h
    split at h
    · rename_i cs hcs
      obtain ⟨h1, h2⟩ := h
      simp only [Nat.ble_eq, lenL_eq] at h1
      have hcs := getD_obj hcs (by simp)
      obtain ⟨b, vs, el, fr, e1, e2, e3, e4, e5, e6⟩ := r.obj o _ hcs
      cases hp with | ptr _ _ _ ho hq _ =>
      obtain ⟨b', e1', rfl⟩ := hq cs hcs
      obtain rfl : b = b' := by rw [e1] at e1'; exact Option.some.inj e1'
      have hrun := run_store_ok hti (v := vx) (b := b) (o := off) e3 (by omega) (by omega) (fun k hk => e6.2 _ (Nat.zero_le _)) (fun k hk => (hcr k (by omega)).2)
      have hlen : vx.cells.toList.length = x.cells.length := by simpa using hcl
      obtain ⟨vs', g1, g2, g3⟩ := setCells_heap b vx.cells.toList off w vs el fr e3 (by omega)
      have hsame : Same I w (w.setCells b off vx.cells.toList) := fun c k hc => by
        have : c ≠ b := fun e => by subst e; exact e6.1 k (Nat.zero_le _) hc
        unfold World.cell?; rw [setCells_other _ _ _ _ _ this]
      have g : Goes w (w.setCells b off vx.cells.toList) I I ι ι H (H.set o (.box (overL cs off x.cells))) := Goes.set hsame (fun _ _ h => h) (setCells_grow b _ _ w e3 (by omega)) hcs trivial
      rw [setL_eq] at h2
      refine ⟨_, I, _, hrun, h2, ?_, g, setCells_below b e2 _ _ _⟩
      refine r.upd hcs (by rw [setCells_size]; exact Nat.le_refl _) g (fun _ _ => rfl) (fun o' y c hne hy hl hc => ⟨setCells_other _ _ _ _ _ (r.ne hcs hy trivial hl e1 hc hne), fun k hk => hk⟩) (fun c k hk => by rw [setCells_size]; exact r.imm c k hk) ?_
        (fun o' y c hne hy hl hc e => r.ne hcs hy trivial hl e1 hc hne (by rw [e1] at e; exact (Option.some.inj e).symm))
      refine ⟨b, vs', el, fr, e1, e2, g1, by rw [g2, overL_length]; exact e4, fun k hk => ?_, e6.1, fun k hk => ?_⟩
      · rw [overL_length] at hk
        rw [g3 k, overL_getD _ _ _ _ _ (by omega)]
        rw [hlen]
        by_cases hc : off ≤ k ∧ k < off + x.cells.length
        · rw [if_pos hc, if_pos hc]
          have := (hcr (k - off) (by omega)).1.goes g
          simpa [Array.getD_eq_getD_getElem?, List.getD_eq_getElem?_getD] using this
        · rw [if_neg hc, if_neg hc]
          exact (e5 k hk).goes g
      · rw [World.frozen?_setCells]; exact e6.2 k hk
    · exact h.elim
  · rename_i o i j len
    have hvl : vx.cells.toList.length = x.cells.length := by simpa using hcl
    obtain ⟨I1, H1, xs, s1, l1, d1, h⟩ := wdatas_ok x.cells r (vs := vx.cells.toList) hvl (fun k hk => by
      have := (hcr k hk).1
      simpa [Array.getD_eq_getD_getElem?, List.getD_eq_getElem?_getD] using this) h
    simp only [getL_eq] at h
    split at h
    · rename_i n sz get fz hcs
      obtain ⟨h0, h1, h2, h3, h4⟩ := h
      simp only [Nat.ble_eq, eqN_eq, leN_eq, ltN_eq] at h0 h1 h2 h3
      have hcs := getD_obj hcs (by simp)
      have r1 := s1.1
      obtain ⟨hfz, hob⟩ := r1.obj o _ hcs
      cases (hp.goes s1.2) with | eptr _ _ _ _ _ ho hq _ =>
      obtain ⟨b', e1', rfl⟩ := (hq n sz get fz hcs).2 h0 h3
      rcases hob with ⟨b, vs, el, fr, e1, e2, e3, e4, e5, e6⟩ | ⟨e1, e2⟩
      · obtain rfl : b = b' := by rw [e1] at e1'; exact Option.some.inj e1'
        have hrow : i * sz + sz ≤ n * sz := by
          have : (i + 1) * sz ≤ n * sz := Nat.mul_le_mul_right _ h3
          rw [Nat.add_mul] at this; omega
        have hfzi : fz * sz ≤ i * sz := Nat.mul_le_mul_right _ h2
        have hrun := run_store_ok hti (v := vx) (b := b) (o := i * sz + j) e3 (by omega) (by omega) (fun k hk => e6.2 _ (by omega)) (fun k hk => (hcr k (by omega)).2)
        obtain ⟨vs', g1, g2, g3⟩ := setCells_heap b vx.cells.toList (i * sz + j) w vs el fr e3 (by omega)
        have hsame : Same I1 w (w.setCells b (i * sz + j) vx.cells.toList) := fun c k hc => by
          by_cases e : c = b
          · subst e
            have hk : ¬ fz * sz ≤ k := fun h => e6.1 k h hc
            exact World.cell?_setCells_out c _ _ _ _ (fun _ _ => .inl (show k < i * sz + j by omega))
          · unfold World.cell?; rw [setCells_other _ _ _ _ _ e]
        have g : Goes w (w.setCells b (i * sz + j) vx.cells.toList) I1 I1 ι ι H1 (H1.set o (.arr n sz (updsG get i j xs) fz)) := Goes.set hsame (fun _ _ h => h) (setCells_grow b _ _ w e3 (by omega)) hcs ⟨rfl, rfl⟩
        rw [setL_eq] at h4
        refine ⟨_, I1, _, hrun, h4, ?_, s1.2.trans g, setCells_below b e2 _ _ _⟩
        refine r1.upd hcs (by rw [setCells_size]; exact Nat.le_refl _) g (fun _ _ => rfl) (fun o' y c hne hy hl hc => ⟨setCells_other _ _ _ _ _ (r1.ne hcs hy trivial hl e1 hc hne), fun k hk => hk⟩) (fun c k hk => by rw [setCells_size]; exact r1.imm c k hk) ?_
          (fun o' y c hne hy hl hc e => r1.ne hcs hy trivial hl e1 hc hne (by rw [e1] at e; exact (Option.some.inj e).symm))
        refine ⟨hfz, .inl ⟨b, vs', el, fr, e1, e2, g1, by omega, fun i' j' hi' hj' => ?_, e6.1, fun k hk => ?_⟩⟩
        · rw [g3]
          have hupd : ∀ (xs : List D) (g : Nat → Nat → D) (j : Nat), updsG g i j xs i' j' = if i' = i ∧ j ≤ j' ∧ j' < j + xs.length then xs.getD (j' - j) .nilp else g i' j' := by
            intro xs
            induction xs with
            | nil => intro g j; rw [if_neg (by simp <;> omega)]; rfl
            | cons x xs ih =>
              intro g j
              rw [updsG, ih]
              by_cases c1 : i' = i ∧ j + 1 ≤ j' ∧ j' < j + 1 + xs.length
              · rw [if_pos c1, if_pos (by simp; omega)]
                obtain ⟨q, rfl⟩ : ∃ q, j' = j + 1 + q := ⟨j' - (j + 1), by omega⟩
                rw [show j + 1 + q - (j + 1) = q by omega, show j + 1 + q - j = q + 1 by omega, List.getD_cons_succ]
              · rw [if_neg c1]
                by_cases c2 : i' = i ∧ j' = j
                · obtain ⟨rfl, rfl⟩ := c2
                  rw [if_pos (by simp)]
                  simp [updG_eq]
                · rw [if_neg (by simp; omega)]
                  simp only [updG_eq, if_neg c2]
          rw [hupd]
          by_cases hi : i' = i
          · subst hi
            by_cases hc : j ≤ j' ∧ j' < j + xs.length
            · rw [if_pos (by omega), if_pos ⟨rfl, hc⟩]
              have := (d1 (j' - j) (by omega)).mono g.same g.imm
              rwa [show i' * sz + j' - (i' * sz + j) = j' - j by omega]
            · rw [if_neg (by omega), if_neg (by simp; omega)]
              exact (e5 i' j' hi' hj').mono g.same g.imm
          · have hap : i' * sz + sz ≤ i * sz ∨ i * sz + sz ≤ i' * sz := by
              rcases Nat.lt_or_gt_of_ne hi with h | h
              · left
                have : (i' + 1) * sz ≤ i * sz := Nat.mul_le_mul_right _ h
                rw [Nat.add_mul] at this; omega
              · right
                have : (i + 1) * sz ≤ i' * sz := Nat.mul_le_mul_right _ h
                rw [Nat.add_mul] at this; omega
            rw [if_neg (by omega), if_neg (by simp [hi])]
            exact (e5 i' j' hi' hj').mono g.same g.imm
        · rw [World.frozen?_setCells]; exact e6.2 k hk
      · omega
    · exact h.elim
  · exact h.elim

end Go.VM
