/- Part of the proof: VU2. -/
import Derived.Test.YtcpdnjehmnbheaaDoorVG2
/- The frame with objects: a contract over some objects serves over every heap that has them, wherever they stand. -/
set_option linter.unusedSimpArgs false
set_option linter.unusedVariables false
set_option linter.unusedSectionVars false
namespace Go.VM
section
variable [Ops] [Glb] [Lim]

/-! ### Objects by other numbers -/
def ren (e : Nat → Nat) : A → A
  | .ref o a b c => .ref (e o) a b c
  | .ptr o k => .ptr (e o) k
  | .eptr o i j l => .eptr (e o) i j l
  | .itr o => .itr (e o)
  | .clo f xs ys => .clo f (renL xs) (renL ys)
  | .agg xs => .agg (renL xs)
  | .tup xs => .tup (renL xs)
  | .d x => .d x
  | .nils => .nils
  | .iptr g i j sz => .iptr g i j sz
  | .undef => .undef
where renL : List A → List A
  | [] => []
  | x :: r => ren e x :: renL r

def renO (e : Nat → Nat) : AObj → AObj
  | .box cs => .box (ren.renL e cs)
  | x => x

theorem renL_length (e : Nat → Nat) : ∀ xs : List A, (ren.renL e xs).length = xs.length
  | [] => rfl
  | _ :: r => by simp [ren.renL, renL_length e r]

theorem renL_getD (e : Nat → Nat) : ∀ (xs : List A) (k : Nat), (ren.renL e xs).getD k .undef = ren e (xs.getD k .undef)
  | [], k => by simp [ren.renL, ren]
  | x :: r, 0 => by simp [ren.renL]
  | x :: r, k + 1 => by simpa [ren.renL] using renL_getD e r k

theorem renO_live (e : Nat → Nat) (x : AObj) : (renO e x).live ↔ x.live := by cases x <;> exact Iff.rfl
theorem renO_arr {e : Nat → Nat} {x : AObj} {n sz : Nat} {g : Nat → Nat → D} {fz : Nat} (h : renO e x = .arr n sz g fz) : x = .arr n sz g fz := by cases x <;> simp_all [renO]
theorem renO_iter {e : Nat → Nat} {x : AObj} {s : ByteArray} {p : Nat} (h : renO e x = .iter s p) : x = .iter s p := by cases x <;> simp_all [renO]
theorem renO_box {e : Nat → Nat} {x : AObj} {cs : List A} (h : renO e x = .box cs) : ∃ cs', x = .box cs' := by cases x <;> simp_all [renO]

theorem renO_isBox {e : Nat → Nat} {x : AObj} : (renO e x).isBox ↔ x.isBox := by cases x <;> exact Iff.rfl
theorem Own.ren {w : World} {ι ι1 : Nat → Option Nat} {e : Nat → Nat} {i b : Nat} {x : AObj} (h : ι (e i) = ι1 i) : Own w ι (e i) (renO e x) b ↔ Own w ι1 i x b := by
  cases x <;> simp only [renO, Own, h]

theorem Bel.mono {n m : Nat} (h : n ≤ m) {x : A} (hx : Bel n x) : Bel m x := by
  induction hx with
  | d => exact .d _
  | nils => exact .nils
  | ref _ _ _ _ h => exact .ref _ _ _ _ (by omega)
  | ptr _ _ h => exact .ptr _ _ (by omega)
  | eptr _ _ _ _ h => exact .eptr _ _ _ _ (by omega)
  | iptr => exact .iptr _ _ _ _
  | itr _ h => exact .itr _ (by omega)
  | clo _ _ _ _ _ ih1 ih2 => exact .clo _ _ _ ih1 ih2
  | agg _ _ ih => exact .agg _ ih
  | tup _ _ ih => exact .tup _ ih
  | undef => exact .undef

theorem RefOk.move {w : World} {ι ι' : Nat → Option Nat} {o o' off len sz : Nat} {v : Value} (e : ι' o' = ι o) (h : RefOk w ι o off len sz v) : RefOk w ι' o' off len sz v := by
  unfold RefOk at h ⊢
  rw [e]; exact h

theorem RepA.down {w : World} {I : Nat → Nat → Prop} {ι : Nat → Option Nat} {H H1 : AHeap} {e : Nat → Nat} (hobj : ∀ i x, H1[i]? = some x → H[e i]? = some (renO e x)) {x : A} (hb : Bel H1.length x) :
    ∀ {v : Value}, RepA w I ι H v (ren e x) → RepA w I (fun i => ι (e i)) H1 v x := by
  induction hb with
  | d x => intro v h; cases h with | d _ _ h => exact .d _ _ h
  | nils => intro v h; cases h; exact .nils
  | ref o off len sz ho =>
    intro v h
    cases h with | ref _ _ _ _ _ h1 h2 h3 => exact .ref v o off len sz ho (fun n sz' get fz hx hs => ⟨(h2 n sz' get fz (hobj o _ hx) hs).1, fun eq => ((h2 n sz' get fz (hobj o _ hx) hs).2 eq).move rfl⟩) h3
  | ptr o off ho =>
    intro v h
    cases h with | ptr _ _ _ h1 h2 h3 => exact .ptr v o off ho (fun cs hx hbx => h2 _ (hobj o _ hx) (renO_isBox.2 hbx)) h3
  | eptr o i j len ho =>
    intro v h
    cases h with | eptr _ _ _ _ _ h1 h2 h3 => exact .eptr v o i j len ho (fun n sz get fz hx => h2 n sz get fz (hobj o _ hx)) h3
  | iptr g i j sz => intro v h; cases h with | iptr b o _ _ _ _ vals hc hr => exact .iptr b o g i j sz vals hc hr
  | itr o ho =>
    intro v h
    cases h with | itr _ _ h1 h2 h3 => exact .itr v o ho (fun s p hx => h2 s p (hobj o _ hx)) h3
  | clo f xs ys _ _ ih1 ih2 =>
    intro v h
    cases h with | clo _ fv cv _ _ l1 l2 r1 r2 =>
    rw [renL_length] at l1 l2 r1 r2
    exact .clo f fv cv xs ys l1 l2 (fun k hk => ih1 k hk (by rw [← renL_getD]; exact r1 k hk)) (fun k hk => ih2 k hk (by rw [← renL_getD]; exact r2 k hk))
  | agg xs _ ih =>
    intro v h
    cases h with | agg vs _ l1 r1 =>
    rw [renL_length] at l1 r1
    exact .agg vs xs l1 (fun k hk => ih k hk (by rw [← renL_getD]; exact r1 k hk))
  | tup xs _ ih =>
    intro v h
    cases h with | tup vs _ l1 r1 =>
    rw [renL_length] at l1 r1
    exact .tup vs xs l1 (fun k hk => ih k hk (by rw [← renL_getD]; exact r1 k hk))
  | undef => intro v _; exact .undef v

theorem RepA.up {w : World} {I J : Nat → Nat → Prop} (hJ : ∀ b k, I b k → J b k) {ι1 ι' : Nat → Option Nat} {H2 H' : AHeap} {e : Nat → Nat} {m : Nat} (hobj : ∀ i, i < m → ∃ x, H2[i]? = some x ∧ H'[e i]? = some (renO e x)) (hι : ∀ i, i < m → ι' (e i) = ι1 i) {x : A} (hb : Bel m x) :
    ∀ {v : Value}, RepA w I ι1 H2 v x → RepA w J ι' H' v (ren e x) := by
  have hs : Same I w w := fun _ _ _ => rfl
  have hlt : ∀ i, i < m → e i < H'.length := fun i hi => by
    obtain ⟨x, _, h2⟩ := hobj i hi
    exact (List.getElem?_eq_some_iff.1 h2).1
  induction hb with
  | d x => intro v h; cases h with | d _ _ h => exact .d _ _ (h.mono hs hJ)
  | nils => intro v h; cases h; exact .nils
  | ref o off len sz ho =>
    intro v h
    cases h with | ref _ _ _ _ _ h1 h2 h3 =>
    obtain ⟨x, p1, p2⟩ := hobj o ho
    refine .ref v (e o) off len sz (hlt o ho) (fun n sz' get fz hx hs => ?_) h3
    rw [p2] at hx
    have := renO_arr (Option.some.inj hx)
    subst this
    exact ⟨(h2 n sz' get fz p1 hs).1, fun eq => ((h2 n sz' get fz p1 hs).2 eq).move (hι o ho)⟩
  | ptr o off ho =>
    intro v h
    cases h with | ptr _ _ _ h1 h2 h3 =>
    obtain ⟨x, p1, p2⟩ := hobj o ho
    refine .ptr v (e o) off (hlt o ho) (fun y hx hbx => ?_) h3
    rw [p2] at hx
    cases hx
    rw [hι o ho]; exact h2 x p1 (renO_isBox.1 hbx)
  | eptr o i j len ho =>
    intro v h
    cases h with | eptr _ _ _ _ _ h1 h2 h3 =>
    obtain ⟨x, p1, p2⟩ := hobj o ho
    refine .eptr v (e o) i j len (hlt o ho) (fun n sz get fz hx => ?_) h3
    rw [p2] at hx
    have := renO_arr (Option.some.inj hx)
    subst this
    rw [hι o ho]; exact h2 n sz get fz p1
  | iptr g i j sz => intro v h; cases h with | iptr b o _ _ _ _ vals hc hr => exact .iptr b o g i j sz vals (fun q hq => ⟨hJ _ _ (hc q hq).1, (hc q hq).2⟩) (fun q hq => (hr q hq).mono hs hJ)
  | itr o ho =>
    intro v h
    cases h with | itr _ _ h1 h2 h3 =>
    obtain ⟨x, p1, p2⟩ := hobj o ho
    refine .itr v (e o) (hlt o ho) (fun s p hx => ?_) h3
    rw [p2] at hx
    have := renO_iter (Option.some.inj hx)
    subst this
    rw [hι o ho]; exact h2 s p p1
  | clo f xs ys _ _ ih1 ih2 =>
    intro v h
    cases h with | clo _ fv cv _ _ l1 l2 r1 r2 =>
    exact .clo f fv cv _ _ (by rw [renL_length]; exact l1) (by rw [renL_length]; exact l2) (fun k hk => by rw [renL_length] at hk; rw [renL_getD]; exact ih1 k hk (r1 k hk)) (fun k hk => by rw [renL_length] at hk; rw [renL_getD]; exact ih2 k hk (r2 k hk))
  | agg xs _ ih =>
    intro v h
    cases h with | agg vs _ l1 r1 =>
    exact .agg vs _ (by rw [renL_length]; exact l1) (fun k hk => by rw [renL_length] at hk; rw [renL_getD]; exact ih k hk (r1 k hk))
  | tup xs _ ih =>
    intro v h
    cases h with | tup vs _ l1 r1 =>
    exact .tup vs _ (by rw [renL_length]; exact l1) (fun k hk => by rw [renL_length] at hk; rw [renL_getD]; exact ih k hk (r1 k hk))
  | undef => intro v _; exact .undef v

/-- a result: what it says of the first m objects stays, the others are frozen into data -/
inductive FrzM (m : Nat) (e : Nat → Nat) (H : AHeap) : A → A → Prop
  | keep (x : A) (h : Bel m x) : FrzM m e H x (ren e x)
  | nils (sz : Nat) (g : Nat → Nat → D) : FrzM m e H .nils (.d (.sl 0 sz g))
  | ref (o off len sz n fz : Nat) (get : Nat → Nat → D) (hm : m ≤ o) (h : H[o]? = some (.arr n sz get fz)) (q : off + len = n) : FrzM m e H (.ref o off len sz) (.d (.sl len sz fun i j => get (off + i) j))
  | ref0 (o len sz n fz : Nat) (get : Nat → Nat → D) (hm : m ≤ o) (h : H[o]? = some (.arr n sz get fz)) (q : len = n) : FrzM m e H (.ref o 0 len sz) (.d (.sl len sz get))
  | agg (xs ys : List A) (hl : xs.length = ys.length) (h : ∀ k, k < xs.length → FrzM m e H (xs.getD k .undef) (ys.getD k .undef)) : FrzM m e H (.agg xs) (.agg ys)
  | tup (xs ys : List A) (hl : xs.length = ys.length) (h : ∀ k, k < xs.length → FrzM m e H (xs.getD k .undef) (ys.getD k .undef)) : FrzM m e H (.tup xs) (.tup ys)
  | un (x : A) : FrzM m e H x .undef
  | deq (a : A) (x y : D) (h : FrzM m e H a (.d x)) (q : Deq x y) : FrzM m e H a (.d y)

theorem FrzM.rep {B : Gd} {w : World} {I J : Nat → Nat → Prop} {ι ι' : Nat → Option Nat} {H H' : AHeap} {m : Nat} {e : Nat → Nat} (r : Rel B ι I w H) (hi : ∀ b k, I b k → J b k) (hn : ∀ o x b k, m ≤ o → H[o]? = some x → x.live → Own w ι o x b → J b k)
    (hup : ∀ x v, Bel m x → RepA w I ι H v x → RepA w J ι' H' v (ren e x)) {x y : A} (f : FrzM m e H x y) : ∀ {v : Value}, RepA w I ι H v x → RepA w J ι' H' v y := by
  have hs : Same I w w := fun _ _ _ => rfl
  have main : ∀ (v : Value) (o off len sz n fz : Nat) (get g : Nat → Nat → D), m ≤ o → H[o]? = some (.arr n sz get fz) → off + len = n → (∀ i j, i < len → g i j = get (off + i) j) → RepA w I ι H v (.ref o off len sz) → RepD w J v (.sl len sz g) := by
    intro v o off len sz n fz get g hm h e hg hv
    cases hv with | ref _ _ _ _ _ ho h1 hl =>
    obtain ⟨-, h2⟩ := h1 n sz get fz h rfl
    rcases h2 e with ⟨b, cap, vs, el, fr, e1, rfl, e3, e4, e5⟩ | ⟨e1, rfl, rfl⟩ | ⟨a, rfl, rfl, e3⟩
    · obtain ⟨hfz, hob⟩ := r.obj o _ h
      rcases hob with ⟨b', vs', el', fr', p1, p2, p3, p4, p5, p6⟩ | ⟨p1, p2⟩
      · have hbb : b = b' := by rw [e1] at p1; exact Option.some.inj p1
        subst hbb
        rw [e3] at p3
        cases p3
        refine .sl b (off * sz) len cap sz g (fun i j => vs.getD ((off + i) * sz + j) undef) e5 (fun i j hi' hj => ⟨hn o _ b _ hm h trivial e1, ?_⟩) (fun i j hi' hj => ?_)
        · have hmul : (off + i) * sz = off * sz + i * sz := Nat.add_mul ..
          have hb : (off + i + 1) * sz ≤ n * sz := Nat.mul_le_mul_right _ (by omega)
          have hb' : (off + i + 1) * sz = (off + i) * sz + sz := Nat.succ_mul ..
          have hlt' : off * sz + (i * sz + j) < vs.size := by omega
          unfold World.cell?
          simp only [e3]
          rw [show (off + i) * sz + j = off * sz + (i * sz + j) by omega]
          simp [Array.getD_eq_getD_getElem?, hlt']
        · rw [hg i j hi']
          exact (p5 (off + i) j (by omega) hj).mono hs hi
      · rw [e1] at p1; cases p1
    · exact .sl0 _ _ _ _
    · exact .sl0 _ _ _ _
  induction f with
  | keep x h => intro v hv; exact hup x v h hv
  | nils sz g => intro v h; cases h with | nils => exact .d _ _ (.sl0 _ _ _ _)
  | ref o off len sz n fz get hm h e => intro v hv; exact .d v _ (main v o off len sz n fz get _ hm h e (fun _ _ _ => rfl) hv)
  | ref0 o len sz n fz get hm h e => intro v hv; exact .d v _ (main v o 0 len sz n fz get _ hm h (by omega) (fun i j _ => by rw [Nat.zero_add]) hv)
  | agg xs ys hl _ ih =>
    intro v h
    cases h with | agg vs _ h1 h2 => exact .agg vs ys (by omega) fun k hk => ih k (by omega) (h2 k (by omega))
  | tup xs ys hl _ ih =>
    intro v h
    cases h with | tup vs _ h1 h2 => exact .tup vs ys (by omega) fun k hk => ih k (by omega) (h2 k (by omega))
  | un x => intro v _; exact .undef v
  | deq a x y _ e ih =>
    intro v hv
    cases ih hv with | d _ _ h => exact .d v y (h.deq e)

/-- an object, by another number -/
theorem ObjOk.down {B B1 : Gd} {w : World} {I : Nat → Nat → Prop} {ι : Nat → Option Nat} {H H1 : AHeap} {e : Nat → Nat} (hobj : ∀ i x, H1[i]? = some x → H[e i]? = some (renO e x)) {i : Nat} {x : AObj} (hb : BelO H1.length x)
    (hB : ∀ b, x.live → Own w (fun i => ι (e i)) i x b → ¬ B1 b) (h : ObjOk B ι I w H (e i) (renO e x)) : ObjOk B1 (fun i => ι (e i)) I w H1 i x := by
  cases x with
  | dead => trivial
  | bld c =>
    obtain ⟨b, p, v, h1, h2, h3, h4, h5, h6⟩ := h
    refine ⟨b, p, v, h1, hB b trivial (.inl h1), h3, h4, h5, ?_⟩
    rcases h6 with h6 | ⟨g, cap, cur, fz, rfl, q2, q3, q4⟩
    · exact .inl h6
    · exact .inr ⟨g, cap, cur, fz, rfl, q2, hB g trivial (.inr ⟨b, _, _, h1, cell_bld h3⟩), q4⟩
  | iter s p =>
    obtain ⟨b, h1, h2, h3⟩ := h
    exact ⟨b, h1, hB b trivial h1, h3⟩
  | box cs =>
    obtain ⟨b, vs, el, fr, h1, h2, h3, h4, h5, h6⟩ := h
    rw [renL_length] at h4 h5
    exact ⟨b, vs, el, fr, h1, hB b trivial h1, h3, h4, fun k hk => (show RepA w I ι H _ (ren e (cs.getD k .undef)) by rw [← renL_getD]; exact h5 k hk).down hobj (hb k hk), h6⟩
  | arr n sz get fz =>
    obtain ⟨hfz, h⟩ := h
    refine ⟨hfz, ?_⟩
    rcases h with ⟨b, vs, el, fr, h1, h2, h3, h4, h5, h6⟩ | ⟨h1, h2⟩
    · exact .inl ⟨b, vs, el, fr, h1, hB b trivial h1, h3, h4, h5, h6⟩
    · exact .inr ⟨h1, h2⟩

theorem ObjOk.up {B B1 : Gd} {w : World} {I J : Nat → Nat → Prop} (hJ : ∀ b k, I b k → J b k) {ι1 ι' : Nat → Option Nat} {H2 H' : AHeap} {e : Nat → Nat} {i : Nat} {x : AObj} (hι : ι' (e i) = ι1 i)
    (hrep : ∀ v y, Bel H2.length y → RepA w I ι1 H2 v y → RepA w J ι' H' v (ren e y)) (hb : BelO H2.length x) (hB : ∀ b, ¬ B1 b → b < w.heap.size → ¬ B b) (hf : ∀ b k, x.live → Own w ι1 i x b → J b k → I b k)
    (h : ObjOk B1 ι1 I w H2 i x) : ObjOk B ι' J w H' (e i) (renO e x) := by
  have hs : Same I w w := fun _ _ _ => rfl
  cases x with
  | dead => trivial
  | bld c =>
    obtain ⟨b, p, v, h1, h2, h3, h4, h5, h6⟩ := h
    refine ⟨b, p, v, hι.trans h1, hB b h2 (lt_of_heap h3), h3, h4, fun k hk => h5 k (hf b k trivial (.inl h1) hk), ?_⟩
    rcases h6 with h6 | ⟨g, cap, cur, fz, rfl, q2, q3, q4, q5, q6, q7⟩
    · exact .inl h6
    · exact .inr ⟨g, cap, cur, fz, rfl, q2, hB g q3 (lt_of_heap q6), fun k hk => q4 k (hf g k trivial (.inr ⟨b, _, _, h1, cell_bld h3⟩) hk), q5, q6, q7⟩
  | iter s p =>
    obtain ⟨b, h1, h2, h3⟩ := h
    exact ⟨b, hι.trans h1, hB b h2 (lt_of_heap h3), h3⟩
  | box cs =>
    obtain ⟨b, vs, el, fr, h1, h2, h3, h4, h5, h6⟩ := h
    exact ⟨b, vs, el, fr, hι.trans h1, hB b h2 (lt_of_heap h3), h3, by rw [renL_length]; exact h4, fun k hk => by
      rw [renL_length] at hk
      rw [renL_getD]; exact hrep _ _ (hb k hk) (h5 k hk), fun k hk hc => h6.1 k hk (hf b k trivial h1 hc), h6.2⟩
  | arr n sz get fz =>
    obtain ⟨hfz, h⟩ := h
    refine ⟨hfz, ?_⟩
    rcases h with ⟨b, vs, el, fr, h1, h2, h3, h4, h5, h6⟩ | ⟨h1, h2⟩
    · exact .inl ⟨b, vs, el, fr, hι.trans h1, hB b h2 (lt_of_heap h3), h3, h4, fun i j hi hj => (h5 i j hi hj).mono hs hJ, fun k hk hc => h6.1 k hk (hf b k trivial h1 hc), h6.2⟩
    · exact .inr ⟨hι.trans h1, h2⟩

/-- an object that nobody touched -/
theorem ObjOk.stay {B : Gd} {w w' : World} {I J : Nat → Nat → Prop} {ι ι' : Nat → Option Nat} {H H' : AHeap} {o : Nat} {x : AObj} (e : ι' o = ι o) (hs : Same I w w') (hI : ∀ b k, I b k → J b k)
    (hrep : ∀ v y, RepA w I ι H v y → RepA w' J ι' H' v y) (hb' : ∀ b, x.live → Own w ι o x b → w'.heap[b]? = w.heap[b]?) (hf' : ∀ b k, x.live → Own w ι o x b → J b k → I b k) (h : ObjOk B ι I w H o x) : ObjOk B ι' J w' H' o x := by
  have hb : ∀ b, x.live → ι o = some b → w'.heap[b]? = w.heap[b]? := fun b hl h => hb' b hl (.of h)
  have hf : ∀ b k, x.live → ι o = some b → J b k → I b k := fun b k hl h => hf' b k hl (.of h)
  have hfree : ∀ b n, x.live → ι o = some b → Free w I b n → Free w' J b n := fun b n hl hi hf' =>
    ⟨fun k hk hc => hf'.1 k hk (hf b k hl hi hc), fun k hk => by
      have := hf'.2 k hk
      unfold World.frozen? at this ⊢
      rw [hb b hl hi]; exact this⟩
  cases x with
  | dead => trivial
  | bld c =>
    obtain ⟨b, p, v, h1, h2, h3, h4, h5, h6⟩ := h
    refine ⟨b, p, v, e.trans h1, h2, (hb b trivial h1).trans h3, h4, fun k hk => h5 k (hf b k trivial h1 hk), h6.keep fun g n k hv => ?_⟩
    have : Own w ι o (.bld c) g := .inr ⟨b, n, k, h1, by rw [cell_bld h3, hv]⟩
    exact ⟨hb' g trivial this, fun q => hf' g q trivial this⟩
  | iter s p =>
    obtain ⟨b, h1, h2, h3⟩ := h
    exact ⟨b, e.trans h1, h2, (hb b trivial h1).trans h3⟩
  | box cs =>
    obtain ⟨b, vs, el, fr, h1, h2, h3, h4, h5, h6⟩ := h
    exact ⟨b, vs, el, fr, e.trans h1, h2, (hb b trivial h1).trans h3, h4, fun k hk => hrep _ _ (h5 k hk), hfree b 0 trivial h1 h6⟩
  | arr n sz get fz =>
    obtain ⟨hfz, h⟩ := h
    refine ⟨hfz, ?_⟩
    rcases h with ⟨b, vs, el, fr, h1, h2, h3, h4, h5, h6⟩ | ⟨h1, h2⟩
    · exact .inl ⟨b, vs, el, fr, e.trans h1, h2, (hb b trivial h1).trans h3, h4, fun i j hi hj => (h5 i j hi hj).mono hs hI, hfree b _ trivial h1 h6⟩
    · exact .inr ⟨e.trans h1, h2⟩

theorem leO_live {x y : AObj} (hx : x.live) (hle : leO x y) : y.live := by
  cases x with
  | dead => exact hx.elim
  | iter s p => cases hle; trivial
  | bld c => cases hle; trivial
  | box cs => obtain ⟨_, rfl, _⟩ := hle; trivial
  | arr m sz g fz => obtain ⟨_, _, rfl, _⟩ := hle; trivial

end
variable [Glb]
/-- what a call over the objects H1 has to leave, so that it serves over H, where they stand at e -/
def Left (H1 H : AHeap) (e : Nat → Nat) (r1 : A) (H1' : AHeap) (R : A → AHeap → Prop) : Prop :=
  ∃ y H2 H', FrzM H2.length e H1' r1 y ∧ H1.length ≤ H2.length ∧ (∀ i, H1.length ≤ i → i < H2.length → e i = H.length + (i - H1.length)) ∧ leH H2 H1' ∧ (∀ (i : Nat) x, H2[i]? = some x → BelO H2.length x) ∧
    H'.length = H.length + (H2.length - H1.length) ∧ (∀ (i : Nat) x, H2[i]? = some x → H'[e i]? = some (renO e x)) ∧ (∀ o, o < H.length → (∀ i, i < H1.length → e i ≠ o) → H'[o]? = H[o]?) ∧ R y H'

open Classical in
/-- THE FRAME with objects. -/
theorem VCalls.frame {P : Program} {K : FuncId} {args1 : List A} {H1 : AHeap} {R1 : A → AHeap → Prop} (h : VCalls P K args1 H1 R1) (H : AHeap) (e : Nat → Nat)
    (hinj : ∀ i j, i < H1.length → j < H1.length → e i = e j → i = j) (hobj : ∀ (i : Nat) x, H1[i]? = some x → H[e i]? = some (renO e x)) (hbo : ∀ (i : Nat) x, H1[i]? = some x → BelO H1.length x)
    (hba : ∀ k, k < args1.length → Bel H1.length (args1.getD k .undef)) {R : A → AHeap → Prop} (hr : ∀ r1 H1', R1 r1 H1' → Left H1 H e r1 H1' R) : VCalls P K (ren.renL e args1) H R := by
  refine Ops.exists_one.elim fun inst => ?_
  intro lim B ι I w vs hrel hargs
  let B1 : Gd := fun b => b < w.heap.size ∧ ∀ (i : Nat) x, H1[i]? = some x → x.live → ¬ Own w (fun i => ι (e i)) i x b
  have hBB : ∀ b, B b → B1 b := fun b hb => ⟨hrel.base b hb, fun i x hx hl hi => ((hrel.obj (e i) _ (hobj i x hx)).lt ((renO_live e x).2 hl) ((Own.ren rfl).2 hi)).1 hb⟩
  have hltx : ∀ (i : Nat) x, H1[i]? = some x → i < H1.length := fun i x hx => (List.getElem?_eq_some_iff.1 hx).1
  have r0 : @Rel _ ⟨I⟩ B1 (fun i => ι (e i)) I w H1 := @Rel.mk _ ⟨I⟩ _ _ _ _ _ (fun k hk => hk.1) hrel.imm (fun b k _ h => h) hrel.glob
    (fun i x hx => (hrel.obj (e i) _ (hobj i x hx)).down hobj (hbo i x hx) (fun b hl hi hb => hb.2 i x hx hl hi))
    (fun i j x y b hx hy lx ly hi hj => hinj i j (hltx i x hx) (hltx j y hy) (hrel.inj (e i) (e j) _ _ b (hobj i x hx) (hobj j y hy) ((renO_live e x).2 lx) ((renO_live e y).2 ly) ((Own.ren rfl).2 hi) ((Own.ren rfl).2 hj)))
  have hl1 : vs.length = args1.length := by rw [hargs.1, renL_length]
  refine (h ⟨I⟩ B1 (fun i => ι (e i)) I w vs r0 ⟨hl1, fun k hk => (show RepA w I ι H _ (ren e (args1.getD k .undef)) by rw [← renL_getD]; exact hargs.2 k (by rw [renL_length]; exact hk)).down hobj (hba k hk)⟩).mono ?_
  rintro _ w' ⟨v, r1, H1', ι1, I', rfl, hR, hrel', hrep, hkeep⟩
  obtain ⟨y, H2, H', hF, hl2, hnew, hle, hb2, hlen', hin, hout0, hRR⟩ := hr r1 H1' hR
  have helt : ∀ i, i < H1.length → e i < H.length := fun i hi => (List.getElem?_eq_some_iff.1 (hobj i _ (List.getElem?_eq_getElem hi))).1
  have hinj2 : ∀ i j, i < H2.length → j < H2.length → e i = e j → i = j := fun i j hi hj he => by
    rcases Nat.lt_or_ge i H1.length with h1 | h1 <;> rcases Nat.lt_or_ge j H1.length with h2 | h2
    · exact hinj i j h1 h2 he
    · have := hnew j h2 hj; have := helt i h1; omega
    · have := hnew i h1 hi; have := helt j h2; omega
    · have := hnew i h1 hi; have := hnew j h2 hj; omega
  have hout : ∀ o, (∀ i, i < H2.length → e i ≠ o) → H'[o]? = H[o]? := fun o ho => by
    rcases Nat.lt_or_ge o H.length with h1 | h1
    · exact hout0 o h1 (fun i hi => ho i (by omega))
    · rw [List.getElem?_eq_none h1, List.getElem?_eq_none]
      rcases Nat.lt_or_ge o (H.length + (H2.length - H1.length)) with h2 | h2
      · exact absurd (by rw [hnew (H1.length + (o - H.length)) (by omega) (by omega)]; omega) (ho (H1.length + (o - H.length)) (by omega))
      · omega
  obtain ⟨hll, hg⟩ := leH_get hle
  have hrel2 : @Rel _ ⟨I⟩ B1 ι1 I' w' H2 := @Rel.less _ _ ⟨I⟩ _ _ _ _ _ _ hrel' hle hb2
  have hobj' := @Rel.obj _ ⟨I⟩ _ _ _ _ _ hrel'
  have hobj2 := @Rel.obj _ ⟨I⟩ _ _ _ _ _ hrel2
  have hinj' := @Rel.inj _ ⟨I⟩ _ _ _ _ _ hrel'
  have himm' := @Rel.imm _ ⟨I⟩ _ _ _ _ _ hrel'
  have hlow' : ∀ b k, B1 b → I' b k → I b k := @Rel.low _ ⟨I⟩ _ _ _ _ _ hrel'
  let J : Nat → Nat → Prop := fun b k => I' b k ∨ ∃ (o : Nat) (x : AObj), H2.length ≤ o ∧ H1'[o]? = some x ∧ x.live ∧ Own w' ι1 o x b
  let ι' : Nat → Option Nat := fun o => if h : ∃ i, i < H2.length ∧ e i = o then ι1 h.choose else ι o
  have hι1 : ∀ i, i < H2.length → ι' (e i) = ι1 i := fun i hi => by
    have hex : ∃ j, j < H2.length ∧ e j = e i := ⟨i, hi, rfl⟩
    show (if h : ∃ j, j < H2.length ∧ e j = e i then ι1 h.choose else ι (e i)) = ι1 i
    rw [dif_pos hex]
    rw [hinj2 _ _ hex.choose_spec.1 hi hex.choose_spec.2]
  have hι2 : ∀ o, (∀ i, i < H2.length → e i ≠ o) → ι' o = ι o := fun o ho => by
    show (if h : ∃ j, j < H2.length ∧ e j = o then ι1 h.choose else ι o) = ι o
    rw [dif_neg fun ⟨j, h1, h2⟩ => ho j h1 h2]
  have hJI : ∀ b k, I' b k → J b k := fun _ _ h => .inl h
  have hJ0 : ∀ b k, I b k → J b k := fun b k h => .inl (hkeep.imm b k h)
  have hJlow : ∀ b k, B1 b → J b k → I b k := by
    rintro b k hb (hk | ⟨o, x, _, hx, hl, hi⟩)
    · exact hlow' b k hb hk
    · exact absurd hb (@ObjOk.lt _ _ ⟨I⟩ _ _ _ _ _ _ _ (hobj' o x hx) hl _ hi).1
  have hblk : ∀ b, B1 b → w'.heap[b]? = w.heap[b]? := fun b hb => hkeep.below.block b hb.1 hb
  have hup : ∀ v x, Bel H2.length x → RepA w' I' ι1 H2 v x → RepA w' J ι' H' v (ren e x) := fun v x hb hx => hx.up hJI (m := H2.length) (fun i hi2 => ⟨H2[i], List.getElem?_eq_getElem hi2, hin i _ (List.getElem?_eq_getElem hi2)⟩) hι1 hb
  -- objects that the call was not given
  have hfar : ∀ o x, (∀ i, i < H2.length → e i ≠ o) → H[o]? = some x → x.live → ∀ b, Own w ι o x b → B1 b := fun o x ho hx hl b hb =>
    ⟨((hrel.obj o x hx).lt hl hb).2, fun i z hz lz hi => ho i (Nat.lt_of_lt_of_le (hltx i z hz) hl2) (hrel.inj (e i) o _ x b (hobj i z hz) hx ((renO_live e z).2 lz) hl ((Own.ren rfl).2 hi) hb)⟩
  have hnear : ∀ v x, Bel H1.length x → RepA w I ι H v (ren e x) → RepA w' J ι' H' v (ren e x) := fun v x hb hx =>
    hup v x (hb.mono hl2) ((hkeep.rep v x (hx.down hobj hb)).less hle (hb.mono hl2))
  have hout2 : ∀ {o : Nat}, o < H.length → (¬ ∃ i, i < H1.length ∧ e i = o) → ∀ i, i < H2.length → e i ≠ o := fun hlt ho i hi he => by
    rcases Nat.lt_or_ge i H1.length with h1 | h1
    · exact ho ⟨i, h1, he⟩
    · have := hnew i h1 hi; omega
  have htr : ∀ v x, RepA w I ι H v x → RepA w' J ι' H' v x := by
    intro v x hx
    induction hx with
    | d v x h => exact .d v x (h.mono hkeep.same hJ0)
    | nils => exact .nils
    | ref v o off len sz ho h hl =>
      by_cases hc : ∃ i, i < H1.length ∧ e i = o
      · obtain ⟨i, hi, rfl⟩ := hc
        exact hnear v (.ref i off len sz) (.ref i off len sz hi) (.ref v _ off len sz ho h hl)
      · refine .ref v o off len sz (by rw [hlen']; omega) (fun n sz' get fz hx hs => ?_) hl
        rw [hout o (hout2 ho hc)] at hx
        refine ⟨(h n sz' get fz hx hs).1, fun eq => ?_⟩
        rcases (h n sz' get fz hx hs).2 eq with ⟨b, cap, vs, el, fr, p1, p2, p3, p4⟩ | q | q
        · exact .inl ⟨b, cap, vs, el, fr, (hι2 o (hout2 ho hc)).trans p1, p2, (hblk b (hfar o _ (hout2 ho hc) hx trivial b p1)).trans p3, p4⟩
        · exact .inr (.inl ⟨(hι2 o (hout2 ho hc)).trans q.1, q.2⟩)
        · exact .inr (.inr q)
    | ptr v o off ho h hv =>
      by_cases hc : ∃ i, i < H1.length ∧ e i = o
      · obtain ⟨i, hi, rfl⟩ := hc
        exact hnear v (.ptr i off) (.ptr i off hi) (.ptr v _ off ho h hv)
      · refine .ptr v o off (by rw [hlen']; omega) (fun cs hx hbx => ?_) hv
        rw [hout o (hout2 ho hc)] at hx
        rw [hι2 o (hout2 ho hc)]; exact h cs hx hbx
    | eptr v o i j len ho h hv =>
      by_cases hc : ∃ i, i < H1.length ∧ e i = o
      · obtain ⟨k, hk, rfl⟩ := hc
        exact hnear v (.eptr k i j len) (.eptr k i j len hk) (.eptr v _ i j len ho h hv)
      · refine .eptr v o i j len (by rw [hlen']; omega) (fun n sz get fz hx => ?_) hv
        rw [hout o (hout2 ho hc)] at hx
        rw [hι2 o (hout2 ho hc)]; exact h n sz get fz hx
    | iptr b o g i j sz vals hc hr => exact .iptr b o g i j sz vals (fun q hq => ⟨hJ0 _ _ (hc q hq).1, (hkeep.same _ _ (hc q hq).1).trans (hc q hq).2⟩) (fun q hq => (hr q hq).mono hkeep.same hJ0)
    | itr v o ho h hv =>
      by_cases hc : ∃ i, i < H1.length ∧ e i = o
      · obtain ⟨i, hi, rfl⟩ := hc
        exact hnear v (.itr i) (.itr i hi) (.itr v _ ho h hv)
      · refine .itr v o (by rw [hlen']; omega) (fun s p hx => ?_) hv
        rw [hout o (hout2 ho hc)] at hx
        rw [hι2 o (hout2 ho hc)]; exact h s p hx
    | clo f fv cv first caps h1 h2 _ _ ih1 ih2 => exact .clo f fv cv first caps h1 h2 ih1 ih2
    | agg vs cs h1 _ ih => exact .agg vs cs h1 ih
    | tup vs cs h1 _ ih => exact .tup vs cs h1 ih
    | undef v => exact .undef v
  have hget : ∀ (o : Nat) x, H'[o]? = some x → (∃ i z, i < H2.length ∧ e i = o ∧ H2[i]? = some z ∧ x = renO e z) ∨ ((∀ i, i < H2.length → e i ≠ o) ∧ H[o]? = some x) := fun o x hx => by
    by_cases hc : ∃ i, i < H2.length ∧ e i = o
    · obtain ⟨i, hi2, rfl⟩ := hc
      have h3 := hin i _ (List.getElem?_eq_getElem hi2)
      rw [h3] at hx
      exact .inl ⟨i, H2[i], hi2, rfl, List.getElem?_eq_getElem hi2, (Option.some.inj hx).symm⟩
    · have hc : ∀ i, i < H2.length → e i ≠ o := fun i hi he => hc ⟨i, hi, he⟩
      exact .inr ⟨hc, by rw [← hout o hc]; exact hx⟩
  -- blocks of the objects that were given: not the ground's
  have hnB : ∀ b, ¬ B1 b → b < w'.heap.size → ¬ B b := fun b h1 _ h2 => h1 (hBB b h2)
  have hnJ : ∀ (i : Nat) z b k, i < H2.length → H2[i]? = some z → z.live → Own w' ι1 i z b → J b k → I' b k := by
    rintro i z b k hi hz lz hb (hk | ⟨o, x, ho, hx, hl, hi'⟩)
    · exact hk
    · obtain ⟨y', hy, hle'⟩ := hg i z hz
      have := hinj' i o y' x b hy hx (leO_live lz hle') hl (leO_own lz hle' hb) hi'
      omega
  have hrelJ : @Rel _ lim B ι' J w' H' := by
    refine @Rel.mk _ lim _ _ _ _ _ (fun k hk => Nat.lt_of_lt_of_le (hrel.base k hk) hkeep.below.size) ?_ (fun b k hb hk => hrel.low b k hb (hJlow b k (hBB b hb) hk)) (fun b k v hg => ⟨hJ0 _ _ (hrel.glob b k v hg).1, (hkeep.same _ _ (hrel.glob b k v hg).1).trans (hrel.glob b k v hg).2⟩) ?_ ?_
    · rintro b k (hk | ⟨o, x, ho, hx, hl, hi⟩)
      · exact himm' b k hk
      · exact (@ObjOk.lt _ _ ⟨I⟩ _ _ _ _ _ _ _ (hobj' o x hx) hl _ hi).2
    · intro o x hx
      rcases hget o x hx with ⟨i, z, hi, rfl, hz, rfl⟩ | ⟨ho, hx⟩
      · exact (hobj2 i z hz).up hJI (hι1 i hi) (fun v y hb hy => hup v y hb hy) (hb2 i z hz) (fun b h1 h2 => hnB b h1 h2) (fun b k lz hb hk => hnJ i z b k hi hz lz hb hk)
      · exact (hrel.obj o x hx).stay (hι2 o ho) hkeep.same hJ0 htr (fun b hl hb => hblk b (hfar o x ho hx hl b hb)) (fun b k hl hb hk => hJlow b k (hfar o x ho hx hl b hb) hk)
    · intro o o' x x' b hx hx' lx lx' hb hb'
      have old : ∀ o x, (∀ i, i < H2.length → e i ≠ o) → H[o]? = some x → x.live → Own w' ι' o x b → Own w ι o x b := fun o x ho hx hl hc =>
        hc.back (hι2 o ho) (fun c hi => hblk c (hfar o x ho hx hl c (.of hi)))
      rcases hget o x hx with ⟨i, z, hi, rfl, hz, rfl⟩ | ⟨ho, hx⟩ <;> rcases hget o' x' hx' with ⟨j, z', hj, rfl, hz', rfl⟩ | ⟨ho', hx'⟩
      · rw [@Rel.inj _ ⟨I⟩ _ _ _ _ _ hrel2 i j z z' b hz hz' ((renO_live e z).1 lx) ((renO_live e z').1 lx') ((Own.ren (hι1 i hi)).1 hb) ((Own.ren (hι1 j hj)).1 hb')]
      · exact absurd (hfar o' x' ho' hx' lx' b (old o' x' ho' hx' lx' hb')) (@ObjOk.lt _ _ ⟨I⟩ _ _ _ _ _ _ _ (hobj2 i z hz) ((renO_live e z).1 lx) _ ((Own.ren (hι1 i hi)).1 hb)).1
      · exact absurd (hfar o x ho hx lx b (old o x ho hx lx hb)) (@ObjOk.lt _ _ ⟨I⟩ _ _ _ _ _ _ _ (hobj2 j z' hz') ((renO_live e z').1 lx') _ ((Own.ren (hι1 j hj)).1 hb')).1
      · exact hrel.inj o o' x x' b hx hx' lx lx' (old o x ho hx lx hb) (old o' x' ho' hx' lx' hb')
  have hbelow : Below B w w' := ⟨hkeep.below.os, hkeep.below.tape, hkeep.below.output, hkeep.below.size, fun k hk hb => hkeep.below.block k hk (hBB k hb)⟩
  refine ⟨v, y, H', ι', J, rfl, hRR, hrelJ, ?_, hbelow, hkeep.same, hJ0, by omega, htr⟩
  exact @FrzM.rep _ _ ⟨I⟩ B1 w' I' J ι1 ι' H1' H' H2.length e hrel' hJI (fun o x b k ho hx hl hb => .inr ⟨o, x, ho, hx, hl, hb⟩) (fun x v hb hx => hup v x hb (hx.less hle hb)) _ _ hF _ hrep

end Go.VM
