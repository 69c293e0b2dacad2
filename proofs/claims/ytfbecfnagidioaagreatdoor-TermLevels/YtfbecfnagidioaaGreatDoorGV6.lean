/- Part of the proof: VBd, VSo, M9, VF5. -/
import Derived.Shelf.Strings.BuilderF
import Derived.Sort.Grow
import Derived.Lib.SlicesCompact
import Derived.Test.YtfbecfnagidioaaGreatDoorGV4
import Derived.Test.YtfbecfnagidioaaGreatDoorGV5
/- strings.Builder: what its methods do to the object that stands for it. -/
set_option linter.unusedSimpArgs false
set_option linter.unusedVariables false
set_option linter.unusedSectionVars false
namespace Go.VM
open Go Go.Proofs Go.Shelf

/-- all blocks but b and the row of v stand as they stood -/
structure Near (w w' : World) (b : Nat) (v : Value) : Prop where
  os : w'.os = w.os
  tape : w'.tape = w.tape
  output : w'.output = w.output
  size : w.heap.size ≤ w'.heap.size
  block : ∀ k, k < w.heap.size → k ≠ b → (∀ n q, v ≠ .slice (some ⟨k, 0, none⟩) n q) → w'.heap[k]? = w.heap[k]?

theorem Near.trans {w w1 w2 : World} {b : Nat} {v : Value} (h : Near w w1 b v) (k : Near w1 w2 b v) : Near w w2 b v :=
  ⟨k.os.trans h.os, k.tape.trans h.tape, k.output.trans h.output, Nat.le_trans h.size k.size, fun i hi hb hv => (k.block i (Nat.lt_of_lt_of_le hi h.size) hb hv).trans (h.block i hi hb hv)⟩
theorem Near.refl (w : World) (b : Nat) (v : Value) : Near w w b v := ⟨rfl, rfl, rfl, Nat.le_refl _, fun _ _ _ _ => rfl⟩
theorem Near.drew {w w' : World} {b : Nat} {v : Value} (h : Near w w' b v) : Near w w'.drew b v := ⟨h.os, h.tape, h.output, h.size, h.block⟩
theorem Near.alloc {w w' : World} {b : Nat} {v : Value} (h : Near w w' b v) (o : Obj) : Near w (w'.alloc o) b v :=
  h.trans ⟨rfl, rfl, rfl, by simp, fun k hk _ _ => Go.RowKit.Below.heap_alloc _ _ _ hk⟩
theorem Near.setCell {w w' : World} {b : Nat} {v : Value} (h : Near w w' b v) (i : Nat) (u : Value) : Near w (w'.setCell ⟨b, i, none⟩ u) b v :=
  h.trans ⟨rfl, rfl, rfl, by simp [World.setCell], fun k _ hk _ => Go.RowKit.Below.heap_setCell _ _ _ _ hk⟩

section
variable [Ops] [Glb] [Lim]
theorem bld_done {B : Gd} {ι : Nat → Option Nat} {I : Nat → Nat → Prop} {w w' : World} {c c' : ByteArray} {b : Nat} {p v p' v' : Value} (hrel : Rel B ι I w [.bld c]) (hi : ι 0 = some b)
    (hb : w.heap[b]? = some (.cells #[p, v] Glb.bt (0, 0))) (hn : Near w w' b v) (hb' : w'.heap[b]? = some (.cells #[p', v'] Glb.bt (0, 0)))
    (hp' : p' = .pointer none ∨ p' = .pointer (some ⟨b, 0, none⟩)) (hbuf' : BufOk B I w' b c' v') : Rel B ι I w' [.bld c'] ∧ Keep B w I ι [.bld c] w' I ι [.bld c'] := by
  obtain ⟨b0, p0, v0, q1, q2, q3, q4, q5, q6⟩ := hrel.obj 0 _ rfl
  obtain rfl : b = b0 := by rw [hi] at q1; exact Option.some.inj q1
  obtain ⟨rfl, rfl⟩ : p = p0 ∧ v = v0 := by
    rw [hb] at q3
    simpa using q3
  have hIb : ∀ a k, I a k → a ≠ b := fun a k h e => q5 k (e ▸ h)
  have hIg : ∀ a k, I a k → ∀ n q, v ≠ .slice (some ⟨a, 0, none⟩) n q := fun a k h n q e => by
    subst e
    rcases q6 with ⟨h1, _⟩ | ⟨g, cap, cur, fz, h1, _, _, h4, _⟩
    · cases h1
    · cases h1; exact h4 k h
  have hBb : ∀ a, B a → a ≠ b := fun a h e => q2 (e ▸ h)
  have hBg : ∀ a, B a → ∀ n q, v ≠ .slice (some ⟨a, 0, none⟩) n q := fun a h n q e => by
    subst e
    rcases q6 with ⟨h1, _⟩ | ⟨g, cap, cur, fz, h1, _, h3, _⟩
    · cases h1
    · cases h1; exact h3 h
  have hsame : Same I w w' := fun a k h => by
    unfold World.cell?
    rw [hn.block a (hrel.imm a k h) (hIb a k h) (hIg a k h)]
  have g : Goes w w' I I ι ι [.bld c] [.bld c'] := by
    refine ⟨hsame, fun _ _ h => h, Nat.le_refl _, fun o off len sz v ho _ n sz' get fz h _ => ?_, fun o x ho h hx => ?_, fun o n sz get fz ho h => ?_, fun o s p ho h => ?_⟩
    all_goals
      obtain rfl : o = 0 := by simpa using ho
      simp at h
    subst h
    exact ⟨⟨_, rfl, trivial⟩, rfl⟩
  refine ⟨⟨fun k hk => Nat.lt_of_lt_of_le (hrel.base k hk) hn.size, fun a k h => Nat.lt_of_lt_of_le (hrel.imm a k h) hn.size, hrel.low, g.glob hrel.glob, fun o x hx => ?_, fun o o' x x' a hx hx' _ _ _ _ => ?_⟩,
    ⟨⟨hn.os, hn.tape, hn.output, hn.size, fun k hk hB => hn.block k hk (hBb k hB) (hBg k hB)⟩, hsame, fun _ _ h => h, Nat.le_refl _, fun v x h => h.goes g⟩⟩
  · have ho := (List.getElem?_eq_some_iff.1 hx).1
    obtain rfl : o = 0 := by simpa using ho
    simp at hx
    subst hx
    exact ⟨b, p', v', hi, q2, hb', hp', q5, hbuf'⟩
  · have ho := (List.getElem?_eq_some_iff.1 hx).1
    have ho' := (List.getElem?_eq_some_iff.1 hx').1
    simp at ho ho'
    omega
end

variable {P : Program} {ρ : Ren}

theorem wpList_append_run {ops : Array Oper} {rest : List Oper} {o : Oper} {a : Act} {w : World} {Q : Exit → Act → World → Prop} (hgd : o.guard = none) (sl x : Operand) (t u : TypeId)
    (ho : o.op = .call { callee := .builtin .append, args := #[sl, x], argTypes := #[t, u] }) {v y v' : Value} {w' : World} (hs : a.eval sl = v) (hx : a.eval x = y) (hr : (Builtin.append_ #[t, u] o.type #[v, y]).run P w = .ok v' w')
    (h : wpList P ops Q rest (a.put o.dst v') w') : wpList P ops Q (o :: rest) a w := by
  refine wpList_plain hgd fun K hK => ?_
  unfold Oper.wp execOp
  simp only [ho, resolve, invoke, builtin, Sem.run_bind, Sem.run_pure, Result.andThen_ok, List.map_toArray, List.map_cons, List.map_nil, hs, hx, hr]
  exact hK _ _ h

theorem wpList_append_ex {ops : Array Oper} {rest : List Oper} {o : Oper} {a : Act} {w : World} {Q : Exit → Act → World → Prop} (hgd : o.guard = none) (sl x : Operand) (t u : TypeId)
    (ho : o.op = .call { callee := .builtin .append, args := #[sl, x], argTypes := #[t, u] }) {v y : Value} (hs : a.eval sl = v) (hx : a.eval x = y) {R : Value → World → Prop} (hr : ∃ v' w', (Builtin.append_ #[t, u] o.type #[v, y]).run P w = .ok v' w' ∧ R v' w')
    (h : ∀ v' w', R v' w' → wpList P ops Q rest (a.put o.dst v') w') : wpList P ops Q (o :: rest) a w := by
  obtain ⟨v', w', h1, h2⟩ := hr
  exact wpList_append_run hgd sl x t u ho hs hx h1 (h v' w' h2)

theorem calls_copyCheck (L : Lays.n240 P ρ) (X : Builder.X72 P ρ) {b : Nat} {p v : Value} {w : World} (hb : w.heap[b]? = some (.cells #[p, v] (ρ.t 72) (0, 0))) (hp : p = .pointer none ∨ p = .pointer (some ⟨b, 0, none⟩)) :
    Calls P (ρ.f 240) #[.pointer (some ⟨b, 0, none⟩)] w fun e w' => e = .returned (.tuple #[]) ∧ w'.heap[b]? = some (.cells #[.pointer (some ⟨b, 0, none⟩), v] (ρ.t 72) (0, 0)) ∧ Near w w' b v ∧ w'.heap.size = w.heap.size ∧ (∀ k, k ≠ b → w'.heap[k]? = w.heap[k]?) := by
  have c0 : w.cell? ⟨b, 0, none⟩ = some p := by rw [Lib.cell_of_heap hb]; rfl
  rcases hp with rfl | rfl
  · refine (Any.Builder_copyCheck_fresh L X b w c0 (by simp [World.shape?, hb]) (Lib.frozen_of_heap hb 0)).mono ?_
    rintro e w' ⟨rfl, rfl⟩
    refine ⟨rfl, ?_, (Near.refl w b v).setCell 0 _, by simp [World.setCell], fun k hk => Go.RowKit.Below.heap_setCell _ _ _ _ hk⟩
    simp [World.setCell, Array.getElem?_modify, hb]
  · refine (Any.Builder_copyCheck_used L X b w c0).mono ?_
    rintro e w' ⟨rfl, rfl⟩
    exact ⟨rfl, hb, .refl _ _ _, rfl, fun _ _ => rfl⟩

theorem getElem?_of_getD {vs : Array Value} {k : Nat} {x : Value} (hk : k < vs.size) (h : vs.getD k undef = x) : vs[k]? = some x := by
  rw [Array.getD_eq_getD_getElem?] at h
  rw [Array.getElem?_eq_getElem hk] at h ⊢
  exact congrArg some h
theorem getD_of_getElem? {vs : Array Value} {k : Nat} {x : Value} (h : vs[k]? = some x) : vs.getD k undef = x := by
  rw [Array.getD_eq_getD_getElem?, h]; rfl
theorem cat_get {c s : ByteArray} {k : Nat} {x : UInt8} (h : (c ++ s).data.toList[k]? = some x) : (k < c.size ∧ c.data.toList[k]? = some x) ∨ (c.size ≤ k ∧ s.data.toList[k - c.size]? = some x) := by
  have e : (c ++ s).data.toList = c.data.toList ++ s.data.toList := by simp [ByteArray.data_append]
  rw [e, List.getElem?_append] at h
  have e2 : c.data.toList.length = c.size := Array.length_toList
  rw [e2] at h
  split at h
  · exact .inl ⟨‹_›, h⟩
  · exact .inr ⟨by omega, h⟩

section
variable [Ops] [Glb] [Lim]
set_option maxHeartbeats 1000000 in
/-- what is appended to a builder's slice of bytes -/
theorem append_buf {t t2 ty e : TypeId} {i : TypeInfo} (ht : P.underlying t = some (.slice e)) (ht2 : P.underlying t2 = some .string ∨ ∃ e', P.underlying t2 = some (.slice e')) (hi : P.info? e = some i) (hz : i.zero = some (.int .u8 0))
    (hs1 : i.size = 1) (hby : i.bytes = 1) (he : e = Glb.u8) {B : Gd} {I : Nat → Nat → Prop} {w : World} {b : Nat} {c : ByteArray} {v : Value} (hbuf : BufOk B I w b c v) (hB : ∀ k, B k → k < w.heap.size) (hI : ∀ k q, I k q → k < w.heap.size)
    (hbl : b < w.heap.size) (s : ByteArray) {y : Value} {news : Array Value} (hx : Src P w y s.size 1 news) (hnews : ∀ (k : Nat) (x : UInt8), s.data.toList[k]? = some x → news[k]? = some (.int .u8 x.toNat)) (h1 : ∀ x ∈ news.toList, x.oneCell' = true) (hlim : c.size + s.size ≤ 140737488355328) :
    ∃ v' w', (Builtin.append_ #[t, t2] ty #[v, y]).run P w = .ok v' w' ∧ BufOk B I w' b (c ++ s) v' ∧ Near w w' b v ∧ w'.heap[b]? = w.heap[b]? := by
  subst he
  have hlen : ∀ x : ByteArray, x.data.toList.length = x.size := fun x => Array.length_toList
  have hcs : (c ++ s).size = c.size + s.size := ByteArray.size_append
  have hnsz : news.size = s.size := by simpa using hx.size
  have hx : Src P w y s.size i.size news := by rw [hs1]; exact hx
  have hzz : (Value.int .u8 0).cells.size = 1 := rfl
  -- a row of its own, in a new block
  have grow : ∀ (base : Option Addr) (sCap : Nat) (olds : Array Value), v = .slice base c.size sCap → sCap < c.size + s.size → Src P w (.slice base c.size sCap) c.size i.size olds →
      (∀ (k : Nat) (x : UInt8), c.data.toList[k]? = some x → olds[k]? = some (.int .u8 x.toNat)) → s.size ≠ 0 →
      ∃ v' w', (Builtin.append_ #[t, t2] ty #[v, y]).run P w = .ok v' w' ∧ BufOk B I w' b (c ++ s) v' ∧ Near w w' b v ∧ w'.heap[b]? = w.heap[b]? := by
    intro base sCap olds hv hcap hsrc holds hs0
    obtain ⟨cp, hc1, hrun⟩ := run_append_grows (P := P) (w := w) (ty := ty) ht ht2 hi hz hx hsrc hcap (by omega) (by rw [hby]; omega)
    have hosz : olds.size = c.size := by have := hsrc.size; rw [hs1] at this; simpa using this
    subst hv
    have hnew := heap_alloc_new w.drew (.cells (olds ++ news ++ Builtin.zeroCells (Value.int .u8 0).cells (cp - (c.size + s.size))) Glb.u8)
    have hold : ∀ k, k < w.heap.size → (w.drew.alloc (.cells (olds ++ news ++ Builtin.zeroCells (Value.int .u8 0).cells (cp - (c.size + s.size))) Glb.u8)).heap[k]? = w.heap[k]? := fun k hk => Go.RowKit.Below.heap_alloc w.drew _ k hk
    refine ⟨_, _, hrun, .inr ⟨w.heap.size, cp, _, _, by rw [hcs], by omega, fun h => Nat.lt_irrefl _ (hB _ h), fun k h => Nat.lt_irrefl _ (hI _ _ h), by omega, hnew, Nat.zero_le _, by omega, ?_, by omega, fun k x hk => ?_⟩,
      ((Near.refl w b _).drew).alloc _, hold b hbl⟩
    · simp only [Array.size_append, zeroCells_size, hzz, hosz, hnsz]; omega
    · rcases cat_get hk with ⟨hlt, hk⟩ | ⟨hle, hk⟩
      · rw [Array.getElem?_append, if_pos (by simp only [Array.size_append]; omega), Array.getElem?_append, if_pos (by omega)]
        exact holds k x hk
      · have h2 := hnews _ x hk
        have hlt2 : k - c.size < news.size := (Array.getElem?_eq_some_iff.1 h2).1
        rw [Array.getElem?_append, if_pos (by simp only [Array.size_append]; omega), Array.getElem?_append, if_neg (by omega), hosz]
        exact h2
  rcases hbuf with ⟨rfl, hc0⟩ | ⟨g, cap, cur, fz, rfl, q2, q3, q4, q5, q6, q7, q8, q9, q10, q11⟩
  · by_cases hs0 : s.size = 0
    · have hrun := run_append_none (P := P) (w := w) (ty := ty) ht ht2 hi hx (sLen := 0) (sCap := 0) (by omega)
      refine ⟨.slice none 0 0, w, by rw [hs0] at hrun; exact hrun, .inl ⟨rfl, by omega⟩, .refl _ _ _, rfl⟩
    · refine grow none 0 #[] (by rw [hc0]) (by omega) ⟨fun _ => by rw [hc0]; rfl, fun _ _ => by rw [hc0]; simp [Builtin.firstCells], by rw [hc0]; simp⟩ (fun k x hk => ?_) hs0
      have := (List.getElem?_eq_some_iff.1 hk).1
      rw [hlen] at this; omega
  · have hcell : ∀ k, k < cap → w.cell? ⟨g, k, none⟩ = some (cur.getD k undef) := fun k hk => cell_of_block q6 (by omega)
    by_cases hfit : c.size + s.size ≤ cap
    · have hrun := run_append_fits (P := P) (w := w) (ty := ty) ht ht2 hi hx (b := g) (o := 0) (sLen := c.size) (sCap := cap) hfit (fun j hj => by rw [hs1, hcell _ (by omega)]; rfl) (fun j hj => by
        obtain ⟨lo, hi'⟩ := fz
        simp only [World.frozen?, q6, hs1, Bool.and_eq_false_iff, decide_eq_false_iff_not]
        right; simp only at q7; omega) h1
      rw [hs1] at hrun
      obtain ⟨vs', p1, p2, p3⟩ := setCells_heap g news.toList (0 + c.size * 1) w cur _ fz q6 (by simp; omega)
      have hb0 := setCells_below (B := fun _ => False) g (fun h => h) news.toList (0 + c.size * 1) w
      refine ⟨_, _, hrun, .inr ⟨g, cap, vs', fz, by rw [hcs], q2, q3, q4, by omega, p1, by omega, by omega, by omega, by omega, fun k x hk => ?_⟩, ⟨hb0.os, hb0.tape, hb0.output, hb0.size, fun k hk hkb hv => setCells_other _ _ _ _ _ (fun e => hv c.size cap (by rw [e]))⟩, setCells_other _ _ _ _ _ (Ne.symm q2)⟩
      rcases cat_get hk with ⟨hlt, hk⟩ | ⟨hle, hk⟩
      · refine getElem?_of_getD (by omega) ?_
        rw [p3, if_neg (by omega)]
        exact getD_of_getElem? (q11 k x hk)
      · have h2 := hnews _ x hk
        have hlt2 : k - c.size < news.size := (Array.getElem?_eq_some_iff.1 h2).1
        refine getElem?_of_getD (by omega) ?_
        rw [p3, if_pos (by simp; omega)]
        have e : k - (0 + c.size * 1) = k - c.size := by omega
        rw [e, List.getD_eq_getElem?_getD, Array.getElem?_toList, h2]; rfl
    · have hfirst : ∀ w', w'.heap = w.heap → (Builtin.firstCells i.size c.size (.slice (some ⟨g, 0, none⟩) c.size cap)).run P w' = .ok ((List.range (c.size * 1)).map fun k => cur.getD k undef).toArray w' := fun w' hw => by
        rw [hs1]
        refine run_firstCells_some (P := P) w' 1 c.size ⟨g, 0, none⟩ c.size cap ((List.range (c.size * 1)).map fun k => cur.getD k undef) (by simp) (fun j u hj => ?_)
        have hj2 : j < c.size := by have := (List.getElem?_eq_some_iff.1 hj).1; simpa using this
        simp [hj2] at hj
        subst hj
        have e : ((⟨g, 0, none⟩ : Addr).add j) = ⟨g, j, none⟩ := by unfold Addr.add; split <;> simp_all
        rw [e]
        have := hcell j (by omega)
        unfold World.cell? at this ⊢
        rw [hw]
        simpa [Array.getD_eq_getD_getElem?] using this
      refine grow (some ⟨g, 0, none⟩) cap _ rfl (by omega) ⟨fun _ => rfl, hfirst, by simp [hs1]⟩ (fun k x hk => ?_) (by omega)
      have hlt : k < c.size := by have := (List.getElem?_eq_some_iff.1 hk).1; rwa [hlen] at this
      have := getD_of_getElem? (q11 k x hk)
      simp [hlt]
      simpa [Array.getD_eq_getD_getElem?] using this
end

theorem src_str {w : World} (s : ByteArray) : Src P w (.string s) s.size 1 (Lib.strCells s).toArray ∧ (∀ (k : Nat) (x : UInt8), s.data.toList[k]? = some x → (Lib.strCells s).toArray[k]? = some (.int .u8 x.toNat)) ∧ ∀ x ∈ (Lib.strCells s).toArray.toList, x.oneCell' = true :=
  ⟨⟨fun _ => rfl, fun w' _ => Lib.run_firstCells_string w' 1 s, by simp [Lib.strCells_length]⟩, fun k x hk => by
    rw [List.getElem?_toArray]
    unfold Lib.strCells
    rw [List.getElem?_map, hk]; rfl, by simpa using Lib.strCells_oneCell s⟩

theorem src_one {w : World} {g : Nat} {u : Value} {t : TypeId} {fr : Nat × Nat} (hg : w.heap[g]? = some (.cells #[u] t fr)) : Src P w (.slice (some ⟨g, 0, none⟩) 1 1) 1 1 #[u] := by
  refine ⟨fun _ => rfl, fun w' hw => ?_, rfl⟩
  refine run_firstCells_some (P := P) w' 1 1 ⟨g, 0, none⟩ 1 1 [u] rfl (fun j v hj => ?_)
  have hj2 : j < 1 := by have := (List.getElem?_eq_some_iff.1 hj).1; simpa using this
  obtain rfl : j = 0 := by omega
  have e : ((⟨g, 0, none⟩ : Addr).add 0) = ⟨g, 0, none⟩ := rfl
  rw [e]
  unfold World.cell?
  rw [hw, hg]
  simpa using hj

section
variable [Glb]
/-- an entry into a builder's method -/
theorem bld_enter [Ops] [Lim] {B : Gd} {ι : Nat → Option Nat} {I : Nat → Nat → Prop} {w : World} {c : ByteArray} {v0 : Value} (hrel : Rel B ι I w [.bld c]) (h : RepA w I ι [.bld c] v0 (.ptr 0 0)) :
    ∃ b p v, v0 = .pointer (some ⟨b, 0, none⟩) ∧ ι 0 = some b ∧ w.heap[b]? = some (.cells #[p, v] Glb.bt (0, 0)) ∧ (p = .pointer none ∨ p = .pointer (some ⟨b, 0, none⟩)) ∧ BufOk B I w b c v := by
  cases h with | ptr _ _ _ ho hq hv =>
  obtain ⟨b, q1, rfl⟩ := hq _ rfl trivial
  obtain ⟨b0, p0, v0, k1, k2, k3, k4, k5, k6⟩ := hrel.obj 0 _ rfl
  obtain rfl : b = b0 := by rw [q1] at k1; exact Option.some.inj k1
  exact ⟨b, p0, v0, rfl, q1, k3, k4, k6⟩

theorem bld_fin [Ops] [Lim] {B : Gd} {ι : Nat → Option Nat} {I : Nat → Nat → Prop} {w w' : World} {c c' : ByteArray} {b : Nat} {p v v' : Value} (hrel : Rel B ι I w [.bld c]) (hi : ι 0 = some b)
    (hb : w.heap[b]? = some (.cells #[p, v] Glb.bt (0, 0))) (hn : Near w w' b v) (hb' : w'.heap[b]? = some (.cells #[.pointer (some ⟨b, 0, none⟩), v] Glb.bt (0, 0)))
    (hbuf' : BufOk B I w' b c' v') : Rel B ι I (w'.setCell ⟨b, 1, none⟩ v') [.bld c'] ∧ Keep B w I ι [.bld c] (w'.setCell ⟨b, 1, none⟩ v') I ι [.bld c'] := by
  refine bld_done (p' := .pointer (some ⟨b, 0, none⟩)) (v' := v') hrel hi hb (hn.setCell 1 v') ?_ (.inr rfl) ?_
  · simp [World.setCell, Array.getElem?_modify, hb']
  · rcases hbuf' with h | ⟨g, cap, cur, fz, q1, q2, q3, q4, q5, q6, q7⟩
    · exact .inl h
    · exact .inr ⟨g, cap, cur, fz, q1, q2, q3, q4, q5, (Go.RowKit.Below.heap_setCell _ _ _ _ q2).trans q6, q7⟩

theorem tup2 {w : World} {I : Nat → Nat → Prop} {ι : Nat → Option Nat} {H : AHeap} {v1 v2 : Value} {x1 x2 : D} (h1 : RepD w I v1 x1) (h2 : RepD w I v2 x2) : RepA w I ι H (.tuple #[v1, v2]) (.tup [.d x1, .d x2]) := by
  refine .tup [v1, v2] _ rfl fun k hk => ?_
  match k, hk with
  | 0, _ => exact .d _ _ h1
  | 1, _ => exact .d _ _ h2

set_option maxHeartbeats 2000000 in
set_option maxRecDepth 100000 in
/-- (*strings.Builder).WriteString -/
theorem vc_WriteString (L : Lays.n166 P ρ) (X : Builder.Extra P ρ) (hbt : Glb.bt = ρ.t 72) (hu8 : Glb.u8 = ρ.t 5) (c s : ByteArray) (hlim : c.size + s.size ≤ 140737488355328) :
    VCalls P (ρ.f 166) [.ptr 0 0, .d (.str s)] [.bld c] (fun r H' => r = .tup [.d (.int .i64 s.size), .d .nili] ∧ H' = [.bld (c ++ s)]) := by
  refine Ops.exists_one.elim fun inst => ?_
  intro lim B ι I w vs hrel hargs
  obtain ⟨hl, hk⟩ := hargs
  match vs, hl with
  | [a0, a1], _ =>
  have h0 := hk 0 (by simp)
  have h1 := hk 1 (by simp)
  simp only [List.getD_cons_zero, List.getD_cons_succ] at h0 h1
  cases h1 with | d _ _ h1 =>
  cases h1
  obtain ⟨b, p, v, rfl, hib, hb, hp, hbuf⟩ := bld_enter hrel h0
  have hbtw := hb
  rw [hbt] at hbtw
  obtain ⟨i0, hi, hz0, hz1, hz2⟩ := info_parts X.infoByte
  have mixed := L.mixed
  have t72 := L.t72; have a72 := L.a72; have z72 := L.z72; have v72 := L.v72; have u72 := run_underlying L.t72
  have t70 := L.t70; have a70 := L.a70; have z70 := L.z70; have v70 := L.v70; have u70 := run_underlying L.t70
  have t37 := L.t37; have a37 := L.a37; have z37 := L.z37; have v37 := L.v37; have u37 := run_underlying L.t37
  have t3 := L.t3; have a3 := L.a3; have z3 := L.z3; have v3 := L.v3; have u3 := run_underlying L.t3
  have t9 := L.t9; have a9 := L.a9; have z9 := L.z9; have v9 := L.v9; have u9 := run_underlying L.t9
  have t4 := L.t4; have a4 := L.a4; have z4 := L.z4; have v4 := L.v4; have u4 := run_underlying L.t4
  have t164 := L.t164; have a164 := L.a164; have z164 := L.z164; have v164 := L.v164; have u164 := run_underlying L.t164
  have t5 := X.t5; have a5 := X.a5; have z5 := X.z5; have v5 := X.v5; have u5 := run_underlying X.t5
  have e240 : ∀ args w, (callFunc (ρ.f 240) args).run P w = .ok (.enter (ρ.f 240) args) w := enters_of L.f240 (by kernel_rfl) rfl
  go_enter L.f166, Body.n166_ntmps ρ
  go_wp2_with (go_at_fn (ρ.f 240); refine (calls_copyCheck { L with } X.toX72 hbtw hp).mono ?_)
  rintro e w1 ⟨rfl, hb1, hn1, hs1, hk1⟩
  have hlt : b < w.heap.size := lt_of_heap hb
  have hbuf1 : BufOk B I w1 b c v := by
    rcases hbuf with h | ⟨g, cap, cur, fz, q1, q2, q3, q4, q5, q6, q7⟩
    · exact .inl h
    · exact .inr ⟨g, cap, cur, fz, q1, q2, q3, q4, q5, (hk1 g q2).trans q6, q7⟩
  obtain ⟨sr1, sr2, sr3⟩ := src_str (P := P) (w := w1) s
  obtain ⟨v', w2, hrun, hbuf2, hn2, hb2⟩ := append_buf (P := P) (ty := ρ.t 37) (t := ρ.t 37) (t2 := ρ.t 9) L.t37 (.inl L.t9) hi hz0 hz1 hz2 hu8.symm hbuf1 (fun k hk => by rw [hs1]; exact hrel.base k hk) (fun k q hk => by rw [hs1]; exact hrel.imm k q hk) (by omega) s sr1 sr2 sr3 hlim
  rw [hb1] at hb2
  have c0 : w1.cell? ⟨b, 0, none⟩ = some (.pointer (some ⟨b, 0, none⟩)) := by rw [Lib.cell_of_heap hb1]; rfl
  have c1 : w1.cell? ⟨b, 1, none⟩ = some v := by rw [Lib.cell_of_heap hb1]; rfl
  have d0 : w2.cell? ⟨b, 0, none⟩ = some (.pointer (some ⟨b, 0, none⟩)) := by rw [Lib.cell_of_heap hb2]; rfl
  have d1 : w2.cell? ⟨b, 1, none⟩ = some v := by rw [Lib.cell_of_heap hb2]; rfl
  have f1 : w2.frozen? ⟨b, 1, none⟩ = false := Lib.frozen_of_heap hb2 1
  obtain ⟨ao, n', cp, rfl⟩ : ∃ ao n' cp, v' = .slice ao n' cp := by
    rcases hbuf2 with h | ⟨g, cap, cur, fz, h, h2⟩
    · exact ⟨_, _, _, h.1⟩
    · exact ⟨_, _, _, h⟩
  go_wp2_with (at_builtin; refine wpList_append_run rfl _ _ (ρ.t 37) (ρ.t 9) rfl rfl rfl hrun ?_)
  go_ret2
  obtain ⟨f1, f2⟩ := bld_fin hrel hib hb (hn1.trans hn2) (by rw [hbt]; exact hb2) hbuf2
  exact ⟨_, _, _, ι, I, rfl, ⟨rfl, rfl⟩, f1, tup2 (.int _ _) .nili, f2⟩

set_option maxHeartbeats 2000000 in
set_option maxRecDepth 100000 in
/-- (*strings.Builder).WriteByte -/
theorem vc_WriteByte (L : Lays.n167 P ρ) (X : Builder.Extra P ρ) (hbt : Glb.bt = ρ.t 72) (hu8 : Glb.u8 = ρ.t 5) (c : ByteArray) (x : UInt8) (n : Int) (hx : n = x.toNat) (hlim : c.size + 1 ≤ 140737488355328) :
    VCalls P (ρ.f 167) [.ptr 0 0, .d (.int .u8 n)] [.bld c] (fun r H' => r = .d .nili ∧ H' = [.bld (c ++ ⟨#[x]⟩)]) := by
  refine Ops.exists_one.elim fun inst => ?_
  intro lim B ι I w vs hrel hargs
  obtain ⟨hl, hk⟩ := hargs
  match vs, hl with
  | [a0, a1], _ =>
  have h0 := hk 0 (by simp)
  have h1 := hk 1 (by simp)
  simp only [List.getD_cons_zero, List.getD_cons_succ] at h0 h1
  cases h1 with | d _ _ h1 =>
  cases h1
  subst hx
  obtain ⟨b, p, v, rfl, hib, hb, hp, hbuf⟩ := bld_enter hrel h0
  have hbtw := hb
  rw [hbt] at hbtw
  obtain ⟨i0, hi, hz0, hz1, hz2⟩ := info_parts X.infoByte
  have mixed := L.mixed
  have t72 := L.t72; have a72 := L.a72; have z72 := L.z72; have v72 := L.v72; have u72 := run_underlying L.t72
  have t70 := L.t70; have a70 := L.a70; have z70 := L.z70; have v70 := L.v70; have u70 := run_underlying L.t70
  have t5 := L.t5; have a5 := L.a5; have z5 := L.z5; have v5 := L.v5; have u5 := run_underlying L.t5
  have t37 := L.t37; have a37 := L.a37; have z37 := L.z37; have v37 := L.v37; have u37 := run_underlying L.t37
  have t9 := L.t9; have a9 := L.a9; have z9 := L.z9; have v9 := L.v9; have u9 := run_underlying L.t9
  have t4 := L.t4; have a4 := L.a4; have z4 := L.z4; have v4 := L.v4; have u4 := run_underlying L.t4
  have t164 := L.t164; have a164 := L.a164; have z164 := L.z164; have v164 := L.v164; have u164 := run_underlying L.t164
  have e240 : ∀ args w, (callFunc (ρ.f 240) args).run P w = .ok (.enter (ρ.f 240) args) w := enters_of L.f240 (by kernel_rfl) rfl
  go_enter L.f167, Body.n167_ntmps ρ
  go_wp2_with (go_at_fn (ρ.f 240); refine (calls_copyCheck { L with } X.toX72 hbtw hp).mono ?_)
  rintro e w1 ⟨rfl, hb1, hn1, hs1, hk1⟩
  have hlt : b < w.heap.size := lt_of_heap hb
  have c0 : w1.cell? ⟨b, 0, none⟩ = some (.pointer (some ⟨b, 0, none⟩)) := by rw [Lib.cell_of_heap hb1]; rfl
  have c1 : w1.cell? ⟨b, 1, none⟩ = some v := by rw [Lib.cell_of_heap hb1]; rfl
  have hbuf1 : ∀ o : Obj, BufOk B I (w1.alloc o) b c v := fun o => by
    rcases hbuf with h | ⟨g, cap, cur, fz, q1, q2, q3, q4, q5, q6, q7⟩
    · exact .inl h
    · exact .inr ⟨g, cap, cur, fz, q1, q2, q3, q4, q5, (Go.RowKit.Below.heap_alloc w1 o g (by rw [hs1]; exact lt_of_heap q6)).trans ((hk1 g q2).trans q6), q7⟩
  have hsz : ∀ o : Obj, (w1.alloc o).heap.size = w.heap.size + 1 := fun o => by rw [← hs1]; simp
  go_wp2_with (at_builtin; refine wpList_append_ex rfl _ _ (ρ.t 37) (ρ.t 37) rfl rfl rfl (append_buf (P := P) L.t37 (.inr ⟨_, L.t37⟩) hi hz0 hz1 hz2 hu8.symm (hbuf1 _) (fun k hk => by rw [hsz]; have := hrel.base k hk; omega) (fun k q hk => by rw [hsz]; have := hrel.imm k q hk; omega) (by rw [hsz]; omega) ⟨#[x]⟩ (news := #[.int .u8 x.toNat]) ?c1 ?c2 ?c3 ?c4) ?_)
  case c1 => exact src_one (by rw [← hs1]; exact heap_alloc_new _ _)
  case c2 => intro k y hk; match k, hk with | 0, hk => simp at hk; subst hk; rfl
  case c3 => rfl
  case c4 => exact hlim
  intro v' w2 hbuf2 hn2 hb2
  rw [← Array.getElem?_eq_getElem] at hb2
  rw [Go.RowKit.Below.heap_alloc _ _ _ (by omega), hb1] at hb2
  have d0 : w2.cell? ⟨b, 0, none⟩ = some (.pointer (some ⟨b, 0, none⟩)) := by rw [Lib.cell_of_heap hb2]; rfl
  have d1 : w2.cell? ⟨b, 1, none⟩ = some v := by rw [Lib.cell_of_heap hb2]; rfl
  have f1 : w2.frozen? ⟨b, 1, none⟩ = false := Lib.frozen_of_heap hb2 1
  obtain ⟨ao, n', cp, rfl⟩ : ∃ ao n' cp, v' = .slice ao n' cp := by
    rcases hbuf2 with h | ⟨g, cap, cur, fz, h, h2⟩
    · exact ⟨_, _, _, h.1⟩
    · exact ⟨_, _, _, h⟩
  go_wp2
  go_ret
  obtain ⟨f1, f2⟩ := bld_fin hrel hib hb ((hn1.alloc _).trans hn2) (by rw [hbt]; exact hb2) hbuf2
  exact ⟨_, _, _, ι, I, rfl, ⟨rfl, rfl⟩, f1, .d _ _ .nili, f2⟩

set_option maxHeartbeats 2000000 in
set_option maxRecDepth 100000 in
/-- (*strings.Builder).Len -/
theorem vc_Len (L : Lays.n170 P ρ) (hbt : Glb.bt = ρ.t 72) (c : ByteArray) :
    VCalls P (ρ.f 170) [.ptr 0 0] [.bld c] (fun r H' => r = .d (.int .i64 c.size) ∧ H' = [.bld c]) := by
  refine Ops.exists_one.elim fun inst => ?_
  intro lim B ι I w vs hrel hargs
  obtain ⟨hl, hk⟩ := hargs
  match vs, hl with
  | [a0], _ =>
  have h0 := hk 0 (by simp)
  simp only [List.getD_cons_zero] at h0
  obtain ⟨b, p, v, rfl, hib, hb, hp, hbuf⟩ := bld_enter hrel h0
  obtain ⟨ao, cp, rfl⟩ : ∃ ao cp, v = .slice ao c.size cp := by
    rcases hbuf with h | ⟨g, cap, cur, fz, h, h2⟩
    · exact ⟨none, 0, by rw [h.2]; exact h.1⟩
    · exact ⟨_, _, h⟩
  have c1 : w.drew.cell? ⟨b, 1, none⟩ = some (.slice ao c.size cp) := by
    have hb' : w.drew.heap[b]? = some (.cells #[p, .slice ao c.size cp] Glb.bt (0, 0)) := hb
    rw [Lib.cell_of_heap hb']; rfl
  have c2 : w.cell? ⟨b, 1, none⟩ = some (.slice ao c.size cp) := c1
  have mixed := L.mixed
  have t72 := L.t72; have a72 := L.a72; have z72 := L.z72; have v72 := L.v72; have u72 := run_underlying L.t72
  have t70 := L.t70; have a70 := L.a70; have z70 := L.z70; have v70 := L.v70; have u70 := run_underlying L.t70
  have t37 := L.t37; have a37 := L.a37; have z37 := L.z37; have v37 := L.v37; have u37 := run_underlying L.t37
  have t3 := L.t3; have a3 := L.a3; have z3 := L.z3; have v3 := L.v3; have u3 := run_underlying L.t3
  go_enter L.f170, Body.n170_ntmps ρ
  go_wp2
  go_ret
  exact ⟨_, _, _, ι, I, rfl, ⟨rfl, rfl⟩, hrel, .d _ _ (.int _ _), ⟨.refl _ _, fun _ _ _ => rfl, fun _ _ h => h, Nat.le_refl _, fun _ _ h => h⟩⟩

theorem bld_froze [Ops] [Lim] {B : Gd} {ι : Nat → Option Nat} {I : Nat → Nat → Prop} {w : World} {c : ByteArray} {b g cap : Nat} {p : Value} {cur : Array Value} {fz : Nat × Nat} (hrel : Rel B ι I w [.bld c]) (hi : ι 0 = some b)
    (hb : w.heap[b]? = some (.cells #[p, .slice (some ⟨g, 0, none⟩) c.size cap] Glb.bt (0, 0))) (hp : p = .pointer none ∨ p = .pointer (some ⟨b, 0, none⟩))
    (q2 : g ≠ b) (q3 : ¬ B g) (q4 : ∀ k, ¬ I g k) (q5 : c.size ≠ 0) (q6 : w.heap[g]? = some (.cells cur Glb.u8 fz)) (q7 : fz.2 ≤ c.size) (q8 : c.size ≤ cap) (q9 : cap ≤ cur.size) (q10 : c.size ≤ 140737488355328)
    (q11 : ∀ (k : Nat) (x : UInt8), c.data.toList[k]? = some x → cur[k]? = some (Value.int .u8 x.toNat)) :
    Rel B ι I (w.drew.freeze ⟨g, 0, none⟩ c.size) [.bld c] ∧ Keep B w I ι [.bld c] (w.drew.freeze ⟨g, 0, none⟩ c.size) I ι [.bld c] := by
  have hother : ∀ k, k ≠ g → (w.drew.freeze ⟨g, 0, none⟩ c.size).heap[k]? = w.heap[k]? := fun k hk => by
    unfold World.freeze
    rw [if_neg q5]
    simp only [Array.getElem?_modify]
    rw [if_neg (fun e => hk e.symm)]
    rfl
  refine bld_done hrel hi hb ⟨?_, ?_, ?_, ?_, fun k _ _ hv => hother k (fun e => hv c.size cap (by rw [e]))⟩ ((hother b (Ne.symm q2)).trans hb) hp (.inr ⟨g, cap, cur, if fz.1 == fz.2 then (0, 0 + c.size) else (min fz.1 0, max fz.2 (0 + c.size)), rfl, q2, q3, q4, q5, ?_, ?_, q8, q9, q10, q11⟩)
  · unfold World.freeze; rw [if_neg q5]; rfl
  · unfold World.freeze; rw [if_neg q5]; rfl
  · unfold World.freeze; rw [if_neg q5]; rfl
  · unfold World.freeze; rw [if_neg q5]; simp
  · unfold World.freeze
    rw [if_neg q5]
    have hd : w.drew.heap[g]? = some (.cells cur Glb.u8 fz) := q6
    simp only [Array.getElem?_modify, hd]
    rfl
  · split <;> simp <;> omega

set_option maxHeartbeats 2000000 in
set_option maxRecDepth 100000 in
/-- (*strings.Builder).String -/
theorem vc_String (L : Lays.n169 P ρ) (X : Builder.Extra P ρ) (hbt : Glb.bt = ρ.t 72) (hu8 : Glb.u8 = ρ.t 5) (c : ByteArray) :
    VCalls P (ρ.f 169) [.ptr 0 0] [.bld c] (fun r H' => r = .d (.str c) ∧ H' = [.bld c]) := by
  refine Ops.exists_one.elim fun inst => ?_
  intro lim B ι I w vs hrel hargs
  obtain ⟨hl, hk⟩ := hargs
  match vs, hl with
  | [a0], _ =>
  have h0 := hk 0 (by simp)
  simp only [List.getD_cons_zero] at h0
  obtain ⟨b, p, v, rfl, hib, hb, hp, hbuf⟩ := bld_enter hrel h0
  have mixed := L.mixed
  have t72 := L.t72; have a72 := L.a72; have z72 := L.z72; have v72 := L.v72; have u72 := run_underlying L.t72
  have t70 := L.t70; have a70 := L.a70; have z70 := L.z70; have v70 := L.v70; have u70 := run_underlying L.t70
  have t37 := L.t37; have a37 := L.a37; have z37 := L.z37; have v37 := L.v37; have u37 := run_underlying L.t37
  have t127 := L.t127; have a127 := L.a127; have z127 := L.z127; have v127 := L.v127; have u127 := run_underlying L.t127
  have t3 := L.t3; have a3 := L.a3; have z3 := L.z3; have v3 := L.v3; have u3 := run_underlying L.t3
  have t9 := L.t9; have a9 := L.a9; have z9 := L.z9; have v9 := L.v9; have u9 := run_underlying L.t9
  have t5 := X.t5; have a5 := X.a5; have z5 := X.z5; have v5 := X.v5; have u5 := run_underlying X.t5
  have hrelD : Rel B ι I w.drew [.bld c] := Rel.heap (w := w) (w' := w.drew) rfl hrel
  rcases hbuf with ⟨rfl, hc0⟩ | ⟨g, cap, cur, fz, rfl, q2, q3, q4, q5, q6, q7, q8, q9, q10, q11⟩
  · -- no byte
    have hUS := Any.unsafeString_none L X
    have c1 : w.drew.cell? ⟨b, 1, none⟩ = some (.slice none 0 0) := by
      have hb' : w.drew.heap[b]? = some (.cells #[p, .slice none 0 0] Glb.bt (0, 0)) := hb
      rw [Lib.cell_of_heap hb']; rfl
    have hSD : (Builtin.unsafeSliceData_ #[(ρ.t 37)] (ρ.t 127) #[.slice none 0 0]).run P w.drew = .ok (.pointer none) w.drew := rfl
    have hce : c = ByteArray.empty := by
      apply ByteArray.ext
      exact Array.eq_empty_of_size_eq_zero hc0
    go_enter L.f169, Body.n169_ntmps ρ
    go_wp2
    go_region_o
    all_goals (go_wp2; go_ret; exact ⟨_, _, _, ι, I, rfl, ⟨by rw [hce], rfl⟩, hrelD, .d _ _ (.str _), ⟨(Below.refl _ _).drew, fun _ _ _ => rfl, fun _ _ h => h, Nat.le_refl _, fun v x h => h.goes (Goes.heap (w := w) (w' := w.drew) rfl I ι _)⟩⟩)
  · -- bytes
    have hlen : c.data.toList.length = c.size := Array.length_toList
    have hl0 : c.data.toList ≠ [] := fun h => by rw [h] at hlen; exact q5 hlen.symm
    have c1 : w.drew.cell? ⟨b, 1, none⟩ = some (.slice (some ⟨g, 0, none⟩) c.size cap) := by
      have hb' : w.drew.heap[b]? = some (.cells #[p, .slice (some ⟨g, 0, none⟩) c.size cap] Glb.bt (0, 0)) := hb
      rw [Lib.cell_of_heap hb']; rfl
    have hSD : (Builtin.unsafeSliceData_ #[(ρ.t 37)] (ρ.t 127) #[.slice (some ⟨g, 0, none⟩) c.size cap]).run P w.drew = .ok (.pointer (some ⟨g, 0, none⟩)) w.drew :=
      Lib.run_unsafeSliceData_row _ _ _ _ _ _ (by omega)
    have hg' : w.drew.heap[g]? = some (.cells cur (ρ.t 5) fz) := by rw [← hu8]; exact q6
    have hUS : (Builtin.unsafeString_ #[(ρ.t 127), (ρ.t 3)] (ρ.t 9) #[.pointer (some ⟨g, 0, none⟩), .int .i64 c.size]).run P w.drew = .ok (.string c) (w.drew.freeze ⟨g, 0, none⟩ c.size) := by
      have := Lib.run_unsafeString_row (P := P) w.drew (ρ.t 127) (ρ.t 3) (ρ.t 9) (ρ.t 5) L.t127 X.cellsByte g cur.size (by simp [World.shape?, hg']) c.data.toList hl0 (by omega) (by omega) (fun j x hx => ?_)
      · rw [hlen] at this
        exact this
      · have e : ((⟨g, 0, none⟩ : Addr).add j) = ⟨g, j, none⟩ := by unfold Addr.add; split <;> simp_all
        rw [e]
        unfold World.cell?
        rw [hg']
        exact q11 j x hx
    go_enter L.f169, Body.n169_ntmps ρ
    go_wp2
    go_region_o
    all_goals (go_wp2; go_ret)
    all_goals
      obtain ⟨hf1, hf2⟩ := bld_froze hrel hib hb hp q2 q3 q4 q5 q6 q7 q8 q9 q10 q11
      exact ⟨_, _, _, ι, I, rfl, ⟨rfl, rfl⟩, hf1, .d _ _ (.str _), hf2⟩

theorem ren_ds (e : Nat → Nat) : ∀ ds : List D, ren.renL e (ds.map A.d) = ds.map A.d
  | [] => rfl
  | _ :: r => by simp [ren.renL, ren, ren_ds e r]

theorem bel_ds (m : Nat) : ∀ (ds : List D) k, k < (ds.map A.d).length → Bel m ((ds.map A.d).getD k .undef)
  | [], k, hk => absurd hk (by simp)
  | x :: r, 0, _ => .d x
  | x :: r, k + 1, hk => by simpa using bel_ds m r k (by simpa using hk)

/-- a method's call, over whatever heap -/
theorem VCalls.bld {K : FuncId} {ds : List D} {c c' : ByteArray} {r0 : A} (h : VCalls P K (.ptr 0 0 :: ds.map .d) [.bld c] (fun r H' => r = r0 ∧ H' = [.bld c'])) (hb : Bel 1 r0) (hr0 : ∀ e, ren e r0 = r0) {H : AHeap} {o : Nat} (ho : getL H o .dead = .bld c) :
    VCalls P K (.ptr o 0 :: ds.map .d) H (fun r H' => r = r0 ∧ H' = setL H o (.bld c')) := by
  have ho : H[o]? = some (.bld c) := by
    refine Ops.exists_one.elim fun inst => ?_
    let lim : Lim := ⟨fun _ _ => True⟩
    rw [getL_eq] at ho
    exact getD_obj ho (by intro h; cases h)
  have hlt : o < H.length := (List.getElem?_eq_some_iff.1 ho).1
  have e0 : (A.ptr o 0 :: ds.map A.d) = ren.renL (fun _ => o) (.ptr 0 0 :: ds.map .d) := by simp [ren.renL, ren, ren_ds]
  rw [e0]
  refine h.frame H (fun _ => o) (fun i j hi hj _ => by simp at hi hj; omega) (fun i x hx => ?_) (fun i x hx => ?_) (fun k hk => ?_) ?_
  · have hi := (List.getElem?_eq_some_iff.1 hx).1
    obtain rfl : i = 0 := by simpa using hi
    simp at hx
    subst hx
    exact ho
  · have hi := (List.getElem?_eq_some_iff.1 hx).1
    obtain rfl : i = 0 := by simpa using hi
    simp at hx
    subst hx
    trivial
  · cases k with
    | zero => exact .ptr _ _ (by simp)
    | succ k => simpa using bel_ds 1 ds k (by simpa using hk)
  · rintro r1 H1' ⟨rfl, rfl⟩
    refine Ops.exists_one.elim fun inst => ?_
    let lim : Lim := ⟨fun _ _ => True⟩
    refine ⟨_, [.bld c'], setL H o (.bld c'), .keep _ hb, Nat.le_refl _, fun i h1 h2 => ?_, ⟨rfl, trivial⟩, fun i x hx => ?_, ?_, fun i x hx => ?_, fun o' _ ho' => ?_, hr0 _, rfl⟩
    · simp at h1 h2; omega
    · have hi := (List.getElem?_eq_some_iff.1 hx).1
      obtain rfl : i = 0 := by simpa using hi
      simp at hx
      subst hx
      trivial
    · rw [setL_eq]; simp
    · have hi := (List.getElem?_eq_some_iff.1 hx).1
      obtain rfl : i = 0 := by simpa using hi
      simp at hx
      subst hx
      rw [setL_eq]
      simp [hlt, renO]
    · have := ho' 0 (by simp)
      rw [setL_eq, List.getElem?_set_ne this]
end

end Go.VM

/- slices.Sort and slices.Compact over an own slice of numbers, from the kit's contracts. -/
set_option linter.unusedSimpArgs false
set_option linter.unusedVariables false
set_option linter.unusedSectionVars false
namespace Go.VM
open Go Go.Proofs Go.Sort
/-- numbers, as cells of a row -/
def nuF (N : Nat → Int) : Nat → Nat → D := fun i _ => .int .i64 (N i)
section
variable [Ops] [Glb] [Lim]
theorem arr_goes {I : Nat → Nat → Prop} {ι : Nat → Option Nat} {w w' : World} {n : Nat} {g g' : Nat → Nat → D} {b : Nat} {vs vs' : Array Value} {el : TypeId} {fr : Nat × Nat}
    (hI : ∀ b k, I b k → b < w.heap.size) (hn : Near w w' b (.slice none 0 0)) (hi : ι 0 = some b) (hb : w.heap[b]? = some (.cells vs el fr)) (hb' : w'.heap[b]? = some (.cells vs' el fr)) (hs : vs'.size = vs.size) (hF : ∀ k, ¬ I b k) :
    Goes w w' I I ι ι [.arr n 1 g 0] [.arr n 1 g' 0] := by
  have hsame : Same I w w' := fun a k h => by
    unfold World.cell?
    rw [hn.block a (hI a k h) (fun e => hF k (e ▸ h)) (by intro _ _ e; cases e)]
  refine ⟨hsame, fun _ _ h => h, Nat.le_refl _, fun o off len sz v ho h n' sz' get fz h2 hsz => ?_, fun o x ho h hx => ?_, fun o n' sz get fz ho h => ?_, fun o s p ho h => ?_⟩
  all_goals
    obtain rfl : o = 0 := by simpa using ho
    simp at *
  · obtain ⟨rfl, rfl, rfl, rfl⟩ := h2
    obtain ⟨h3, h4⟩ := h _ _ _ _ rfl rfl rfl rfl hsz
    refine ⟨h3, fun e => ?_⟩
    rcases h4 e with ⟨b1, cap, vs1, el1, fr1, a1, a2, a3, a4, a5⟩ | h5 | h5
    · obtain rfl : b = b1 := by rw [hi] at a1; exact Option.some.inj a1
      rw [hb] at a3
      cases a3
      exact .inl ⟨b, cap, vs', el, fr, hi, a2, hb', by rw [hs]; exact a4, a5⟩
    · exact .inr (.inl h5)
    · exact .inr (.inr h5)
  · subst h; cases hx
  · obtain ⟨rfl, rfl, rfl, rfl⟩ := h
    exact ⟨n, ⟨rfl, rfl⟩, Nat.le_refl _⟩
theorem arr_put {B : Gd} {I : Nat → Nat → Prop} {ι : Nat → Option Nat} {w w' : World} {n : Nat} {g g' : Nat → Nat → D} {b : Nat} {vs vs' : Array Value} {el : TypeId} {fr : Nat × Nat}
    (hrel : Rel B ι I w [.arr n 1 g 0]) (hn : Near w w' b (.slice none 0 0)) (hi : ι 0 = some b) (hB : ¬ B b) (hb : w.heap[b]? = some (.cells vs el fr)) (hb' : w'.heap[b]? = some (.cells vs' el fr)) (hs : vs'.size = vs.size) (hsz : n ≤ vs.size) (hF : Free w I b 0)
    (hv : ∀ i, i < n → RepD w' I (vs'.getD i undef) (g' i 0)) : Rel B ι I w' [.arr n 1 g' 0] ∧ Keep B w I ι [.arr n 1 g 0] w' I ι [.arr n 1 g' 0] := by
  have hF0 : ∀ k, ¬ I b k := fun k => hF.1 k (Nat.zero_le _)
  have g := arr_goes (g := g) (g' := g') (n := n) hrel.imm hn hi hb hb' hs hF0
  have hBb : ∀ a, B a → a ≠ b := fun a h e => hB (e ▸ h)
  refine ⟨⟨fun k hk => Nat.lt_of_lt_of_le (hrel.base k hk) hn.size, fun a k h => Nat.lt_of_lt_of_le (hrel.imm a k h) hn.size, hrel.low, g.glob hrel.glob, fun o x hx => ?_, fun o o' x x' a hx hx' _ _ _ _ => ?_⟩,
    ⟨⟨hn.os, hn.tape, hn.output, hn.size, fun k hk hk2 => hn.block k hk (hBb k hk2) (by intro _ _ e; cases e)⟩, g.same, fun _ _ h => h, Nat.le_refl _, fun v x h => h.goes g⟩⟩
  · have ho := (List.getElem?_eq_some_iff.1 hx).1
    obtain rfl : o = 0 := by simpa using ho
    simp at hx
    subst hx
    refine ⟨Nat.zero_le _, .inl ⟨b, vs', el, fr, hi, hB, hb', by omega, fun i j h1 h2 => ?_, fun k _ => hF0 k, fun k _ => ?_⟩⟩
    · obtain rfl : j = 0 := by omega
      simpa using hv i h1
    · have := hF.2 k (by omega)
      simpa [World.frozen?, hb, hb'] using this
  · have ho := (List.getElem?_eq_some_iff.1 hx).1
    have ho' := (List.getElem?_eq_some_iff.1 hx').1
    simp at ho ho'
    omega
theorem arr_cut {B : Gd} {I : Nat → Nat → Prop} {ι : Nat → Option Nat} {w : World} {n k : Nat} {g : Nat → Nat → D} {b : Nat} {vs : Array Value} {el : TypeId} {fr : Nat × Nat}
    (hrel : Rel B ι I w [.arr n 1 g 0]) (hi : ι 0 = some b) (hB : ¬ B b) (hb : w.heap[b]? = some (.cells vs el fr)) (hsz : n ≤ vs.size) (hF : Free w I b 0) (hk : k ≤ n)
    (hv : ∀ i, i < n → RepD w I (vs.getD i undef) (g i 0)) : Rel B (updι ι 1 (some b)) I w [.dead, .arr k 1 g 0] ∧ Keep B w I ι [.arr n 1 g 0] w I (updι ι 1 (some b)) [.dead, .arr k 1 g 0] := by
  have g : Goes w w I I ι (updι ι 1 (some b)) [.arr n 1 g 0] [.dead, .arr k 1 g 0] := by
    refine ⟨fun _ _ _ => rfl, fun _ _ h => h, by simp, fun o off len sz v ho h n' sz' get fz h2 hsz => ?_, fun o x ho h hx => ?_, fun o n' sz get fz ho h => ?_, fun o s p ho h => ?_⟩
    all_goals
      obtain rfl : o = 0 := by simpa using ho
      simp at *
    subst h; cases hx
  refine ⟨⟨hrel.base, hrel.imm, hrel.low, g.glob hrel.glob, fun o x hx => ?_, fun o o' x x' a hx hx' l1 l2 _ _ => ?_⟩, ⟨⟨rfl, rfl, rfl, Nat.le_refl _, fun _ _ _ => rfl⟩, fun _ _ _ => rfl, fun _ _ h => h, by simp, fun v x h => h.goes g⟩⟩
  · match o, hx with
    | 0, hx =>
      simp at hx
      subst hx
      trivial
    | 1, hx =>
      simp at hx
      subst hx
      exact ⟨Nat.zero_le _, .inl ⟨b, vs, el, fr, rfl, hB, hb, by omega, fun i j h1 h2 => by
        obtain rfl : j = 0 := by omega
        simpa using hv i (by omega), fun k _ => hF.1 k (Nat.zero_le _), fun k _ => hF.2 k (by omega)⟩⟩
    | o + 2, hx => simp at hx
  · have live : ∀ {o x}, ([.dead, .arr k 1 ‹Nat → Nat → D› 0] : AHeap)[o]? = some x → x.live → o = 1 := fun {o x} hx l => by
      match o, hx with
      | 0, hx => simp at hx; subst hx; exact l.elim
      | 1, hx => rfl
      | o + 2, hx => simp at hx
    rw [live hx l1, live hx' l2]
/-- an own slice of numbers, opened -/
theorem ref_open {B : Gd} {I : Nat → Nat → Prop} {ι : Nat → Option Nat} {w : World} {n : Nat} {N : Nat → Int} {v : Value} (hn : 0 < n) (hrel : Rel B ι I w [.arr n 1 (nuF N) 0]) (hv : RepA w I ι [.arr n 1 (nuF N) 0] v (.ref 0 0 n 1)) :
    ∃ b cap vs el fr, v = .slice (some ⟨b, 0, none⟩) n cap ∧ ι 0 = some b ∧ ¬ B b ∧ w.heap[b]? = some (.cells vs el fr) ∧ n ≤ vs.size ∧ cap ≤ vs.size ∧ n ≤ cap ∧ Free w I b 0 ∧ (∀ i, i < n → vs.getD i undef = .int .i64 (N i)) := by
  cases hv with | ref _ _ _ _ _ ho h hl =>
  obtain ⟨_, h2⟩ := h n 1 _ 0 rfl rfl
  rcases h2 (by omega) with ⟨b, cap, vs, el, fr, a1, a2, a3, a4, a5⟩ | ⟨_, _, e⟩ | ⟨_, _, e, _⟩
  · obtain ⟨_, c⟩ := hrel.obj 0 _ rfl
    rcases c with ⟨b1, vs1, el1, fr1, c1, c2, c3, c4, c5, c6⟩ | ⟨_, e⟩
    · obtain rfl : b = b1 := by rw [a1] at c1; exact Option.some.inj c1
      rw [a3] at c3
      cases c3
      refine ⟨b, cap, vs, el, fr, by simpa using a2, a1, c2, a3, by omega, by omega, a5, by simpa using c6, fun i hi => ?_⟩
      have := c5 i 0 hi (by omega)
      simp only [Nat.mul_one, Nat.add_zero] at this
      unfold nuF at this
      generalize hx : vs.getD i undef = x at this ⊢
      cases this
      rfl
    · omega
  · omega
  · omega
theorem put_near {w : World} {b n : Nat} {zs : List Int} {os : Array Obj} (hb : b < w.heap.size) : Near w (grow (putRow (Value.int .i64) (Sort.ahead w n) b 0 zs.toArray) os) b (.slice none 0 0) :=
  ⟨rfl, rfl, rfl, by simp [grow, putRow, mapBlock, Sort.ahead], fun k hk hkb _ => by
    rw [heap_grow_old _ _ (by simpa using hk)]
    simp only [putRow, mapBlock, heap_ahead, Array.getElem?_modify]
    rw [if_neg (Ne.symm hkb)]⟩
theorem put_at {w : World} {b n : Nat} {zs : List Int} {os : Array Obj} {vs : Array Value} {el : TypeId} {fr : Nat × Nat} (hb : w.heap[b]? = some (.cells vs el fr)) :
    (grow (putRow (Value.int .i64) (Sort.ahead w n) b 0 zs.toArray) os).heap[b]? = some (.cells (putCells (Value.int .i64) 0 zs.toArray vs) el fr) := by
  have hl := (Array.getElem?_eq_some_iff.1 hb).1
  rw [heap_grow_old _ _ (by simpa using hl)]
  simp only [putRow, mapBlock, heap_ahead, Array.getElem?_modify]
  rw [if_pos trivial, hb]
  rfl
theorem put_get {zs : List Int} {vs : Array Value} {i : Nat} (hi : i < zs.length) (hz : zs.length ≤ vs.size) : (putCells (Value.int .i64) 0 zs.toArray vs).getD i undef = .int .i64 (zs.getD i 0) := by
  rw [Array.getD_eq_getD_getElem?]
  unfold putCells
  rw [Array.getElem?_mapIdx, Array.getElem?_eq_getElem (by omega), Option.map_some]
  rw [if_pos ⟨Nat.zero_le _, by simpa using hi⟩]
  simp [hi]
end
def numsL (N : Nat → Int) (n : Nat) : List Int := (List.range n).map N
theorem numsL_length (N : Nat → Int) (n : Nat) : (numsL N n).length = n := by simp [numsL]
theorem numsL_getD (l : List Int) : numsL (fun i => l.getD i 0) l.length = l := by
  unfold numsL
  refine List.ext_getElem (by simp) fun i h1 h2 => ?_
  simp [h2]
theorem numsL_holds {w : World} {b n : Nat} {N : Nat → Int} {vs : Array Value} {el : TypeId} {fr : Nat × Nat} (hb : w.heap[b]? = some (.cells vs el fr)) (hsz : n ≤ vs.size) (hf : ∀ k, 0 ≤ k → w.frozen? ⟨b, k, none⟩ = false) (hv : ∀ i, i < n → vs.getD i undef = .int .i64 (N i)) :
    Holds (Value.int .i64) w b 0 (numsL N n).toArray := fun j hj => by
  have hj' : j < n := by simpa [numsL] using hj
  refine ⟨?_, hf _ (Nat.zero_le _)⟩
  unfold World.cell?
  have := hv j hj'
  rw [Array.getD_eq_getD_getElem?, Array.getElem?_eq_getElem (by omega)] at this
  simp [hb, numsL, hj']
  rw [Array.getElem?_eq_getElem (by omega)]
  exact congrArg some this
theorem VCalls.sortI [Glb] {Q : Program} {K : FuncId}
    (h : ∀ (blk cap : Nat) (zs : List Int) (w : World), Holds (Value.int .i64) w blk 0 zs.toArray → blk < w.heap.size → zs.length < 4611686018427387904 →
      Calls Q K #[.slice (some ⟨blk, 0, none⟩) zs.length cap] w fun e w' => e = .returned (.tuple #[]) ∧ ∃ n os, w' = grow (putRow (Value.int .i64) (Sort.ahead w n) blk 0 (zs.mergeSort fun x y => decide (x ≤ y)).toArray) os)
    {n : Nat} {N : Nat → Int} (hn : 0 < n) (hn2 : n < 4611686018427387904) : VCalls Q K [.ref 0 0 n 1] [.arr n 1 (nuF N) 0] (fun r H => r = .tup [] ∧ ∃ N', numsL N' n = ((numsL N n).mergeSort fun x y => decide (x ≤ y)) ∧ H = [.arr n 1 (nuF N') 0]) := by
  intro lim B ι I w vs0 hrel hargs
  refine Ops.exists_one.elim fun inst => ?_
  obtain ⟨hl, ha⟩ := hargs
  match vs0, hl with
  | [v], _ =>
  have hv := ha 0 (by simp)
  simp only [List.getD_cons_zero] at hv
  obtain ⟨b, cap, vs, el, fr, rfl, hi, hB, hb, hsz, _, hcap, hF, hN⟩ := ref_open hn hrel hv
  have hbl := (Array.getElem?_eq_some_iff.1 hb).1
  have key := h b cap (numsL N n) w (numsL_holds hb hsz hF.2 hN) hbl (by rw [numsL_length]; exact hn2)
  rw [numsL_length] at key
  refine key.mono ?_
  rintro e w' ⟨rfl, q, os, rfl⟩
  generalize hz : (numsL N n).mergeSort (fun x y => decide (x ≤ y)) = zs
  have hzl : zs.length = n := by rw [← hz, List.length_mergeSort, numsL_length]
  obtain ⟨r1, r2⟩ := arr_put (g' := nuF fun i => zs.getD i 0) hrel (put_near (n := q) (zs := zs) (os := os) hbl) hi hB hb (put_at hb) (by simp [putCells]) hsz hF fun i hi => by
    rw [put_get (by omega) (by omega)]
    exact .int _ _
  exact ⟨_, .tup [], [.arr n 1 (nuF fun i => zs.getD i 0) 0], ι, I, rfl, ⟨rfl, _, by rw [← hzl]; exact numsL_getD zs, rfl⟩, r1, .tup [] [] rfl (fun k hk => absurd hk (by simp)), r2⟩
theorem VCalls.compactI [Glb] {Q : Program} {K : FuncId}
    (h : ∀ (blk cap : Nat) (zs : List Int) (w : World), Holds (Value.int .i64) w blk 0 zs.toArray → zs.length ≤ 9223372036854775807 → zs.length ≤ cap →
      Calls Q K #[.slice (some ⟨blk, 0, none⟩) zs.length cap] w fun e w' => e = .returned (.slice (some ⟨blk, 0, none⟩) (Lib.compact zs).length cap) ∧ ∃ q, w' = putRow (Value.int .i64) (Sort.ahead w q) blk 0 (Lib.compact zs ++ List.replicate (zs.length - (Lib.compact zs).length) 0).toArray)
    {n : Nat} {N : Nat → Int} (hn : 0 < n) (hn2 : n ≤ 9223372036854775807) : VCalls Q K [.ref 0 0 n 1] [.arr n 1 (nuF N) 0] (fun r H => ∃ k N', numsL N' k = Lib.compact (numsL N n) ∧ k ≤ n ∧ r = .ref 1 0 k 1 ∧ H = [.dead, .arr k 1 (nuF N') 0]) := by
  intro lim B ι I w vs0 hrel hargs
  refine Ops.exists_one.elim fun inst => ?_
  obtain ⟨hl, ha⟩ := hargs
  match vs0, hl with
  | [v], _ =>
  have hv := ha 0 (by simp)
  simp only [List.getD_cons_zero] at hv
  obtain ⟨b, cap, vs, el, fr, rfl, hi, hB, hb, hsz, hcs, hcap, hF, hN⟩ := ref_open hn hrel hv
  have hbl := (Array.getElem?_eq_some_iff.1 hb).1
  have key := h b cap (numsL N n) w (numsL_holds hb hsz hF.2 hN) (by rw [numsL_length]; exact hn2) (by rw [numsL_length]; exact hcap)
  rw [numsL_length] at key
  refine key.mono ?_
  rintro e w' ⟨rfl, q, rfl⟩
  generalize hz : Lib.compact (numsL N n) = zs
  have hzl : zs.length ≤ n := by
    rw [← hz]
    unfold Lib.compact Lib.compactUpTo
    rw [List.length_map]
    refine Nat.le_trans (List.length_filter_le _ _) ?_
    rw [List.length_range, numsL_length]; exact Nat.le_refl _
  generalize hy : zs ++ List.replicate (n - zs.length) 0 = ys
  have hyl : ys.length = n := by rw [← hy]; simp; omega
  have hyg : ∀ i, i < zs.length → ys.getD i 0 = zs.getD i 0 := fun i hi => by rw [← hy]; simp [List.getElem?_append, hi]
  have e1 : putRow (Value.int .i64) (Sort.ahead w q) b 0 ys.toArray = grow (putRow (Value.int .i64) (Sort.ahead w q) b 0 ys.toArray) #[] := (grow_empty _).symm
  rw [e1]
  have hat := put_at (n := q) (zs := ys) (os := #[]) hb
  have hps : (putCells (Value.int .i64) 0 ys.toArray vs).size = vs.size := by simp [putCells]
  have hpv : ∀ (W : World) (J : Nat → Nat → Prop) i, i < n → RepD W J ((putCells (Value.int .i64) 0 ys.toArray vs).getD i undef) (nuF (fun i => ys.getD i 0) i 0) := fun W J i hi => by
    rw [put_get (by omega) (by omega)]
    exact .int _ _
  obtain ⟨r1, r2⟩ := arr_put (g' := nuF fun i => ys.getD i 0) hrel (put_near (n := q) (zs := ys) (os := #[]) hbl) hi hB hb hat hps hsz hF fun i hi => hpv _ _ i hi
  have hF' : Free (grow (putRow (Value.int .i64) (Sort.ahead w q) b 0 ys.toArray) #[]) I b 0 := ⟨hF.1, fun k hk => by
    have := hF.2 k hk
    rw [World.frozen?, hat]
    rw [World.frozen?, hb] at this
    exact this⟩
  obtain ⟨s1, s2⟩ := arr_cut (k := zs.length) r1 hi hB hat (by omega) hF' hzl fun i hi => hpv _ _ i hi
  refine ⟨_, .ref 1 0 zs.length 1, [.dead, .arr zs.length 1 (nuF fun i => ys.getD i 0) 0], _, I, rfl, ⟨zs.length, _, ?_, hzl, rfl, rfl⟩, s1, ?_, ⟨⟨s2.below.os.trans r2.below.os, s2.below.tape.trans r2.below.tape, s2.below.output.trans r2.below.output, Nat.le_trans r2.below.size s2.below.size, fun k hk hk2 => (s2.below.block k (Nat.lt_of_lt_of_le hk r2.below.size) hk2).trans (r2.below.block k hk hk2)⟩,
    r2.same, fun _ _ h => h, by simp, fun v x hx => s2.rep v x (r2.rep v x hx)⟩⟩
  · rw [← numsL_getD zs]
    unfold numsL
    simp only [List.length_map, List.length_range]
    exact List.map_congr_left fun i hi => by
      have := List.mem_range.1 hi
      rw [hyg i this]
  · refine .ref _ 1 0 zs.length 1 (by simp) (fun n' sz' get fz hx hs => ?_) ⟨_, _, rfl⟩
    simp at hx
    obtain ⟨rfl, rfl, rfl, rfl⟩ := hx
    refine ⟨by omega, fun _ => .inl ⟨b, cap, _, el, fr, rfl, rfl, hat, by omega, by omega⟩⟩
end Go.VM

/- The variables of a level: sorted, and each once. -/
namespace Go.VM
open Go.Sort Go
set_option linter.unusedVariables false
set_option linter.unusedSimpArgs false
theorem asc_list_ext : ∀ {l r : List Int}, l.Pairwise (· < ·) → r.Pairwise (· < ·) → (∀ x, x ∈ l ↔ x ∈ r) → l = r
  | [], [], _, _, _ => rfl
  | [], y :: r, _, _, h => by have := (h y).2 List.mem_cons_self; cases this
  | x :: l, [], _, _, h => by have := (h x).1 List.mem_cons_self; cases this
  | x :: l, y :: r, hl, hr, h => by
    obtain ⟨l1, l2⟩ := List.pairwise_cons.1 hl
    obtain ⟨r1, r2⟩ := List.pairwise_cons.1 hr
    have e : x = y := by
      rcases List.mem_cons.1 ((h x).1 List.mem_cons_self) with e | h1
      · exact e
      · rcases List.mem_cons.1 ((h y).2 List.mem_cons_self) with e | h2
        · exact e.symm
        · have := r1 x h1; have := l1 y h2; omega
    subst e
    rw [asc_list_ext l2 r2 fun z => ?_]
    have hz := h z
    simp only [List.mem_cons] at hz
    constructor
    · intro hm
      rcases hz.1 (.inr hm) with e | e
      · have := l1 z hm; omega
      · exact e
    · intro hm
      rcases hz.2 (.inr hm) with e | e
      · have := r1 z hm; omega
      · exact e
theorem numsL_mem {N : Nat → Int} {n : Nat} {x : Int} : x ∈ numsL N n ↔ ∃ i, i < n ∧ N i = x := by
  unfold numsL
  simp
theorem numsL_get {N : Nat → Int} {n i : Nat} (h : i < (numsL N n).length) : (numsL N n)[i] = N i := by simp [numsL]
theorem numsL_pair {N : Nat → Int} {n : Nat} : ascF N n ↔ (numsL N n).Pairwise (· < ·) := by
  rw [List.pairwise_iff_getElem]
  constructor
  · intro h i j h1 h2 hij
    rw [numsL_get, numsL_get]
    exact h i j hij (by rwa [numsL_length] at h2)
  · intro h k l hkl hl
    have := h k l (by rw [numsL_length]; omega) (by rw [numsL_length]; omega) hkl
    rwa [numsL_get, numsL_get] at this
theorem VarsP.iff {V U : Nat → Int} {n m : Nat} : VarsP V n U m ↔ ((numsL U m).Pairwise (· < ·) ∧ ∀ x, x ∈ numsL U m ↔ x ∈ numsL V n) := by
  unfold VarsP
  rw [numsL_pair]
  constructor
  · rintro ⟨h1, h2, h3⟩
    refine ⟨h1, fun x => ?_⟩
    rw [numsL_mem, numsL_mem]
    constructor
    · rintro ⟨j, hj, rfl⟩; exact h3 j hj
    · rintro ⟨j, hj, rfl⟩; exact h2 j hj
  · rintro ⟨h1, h2⟩
    refine ⟨h1, fun i hi => ?_, fun j hj => ?_⟩
    · exact numsL_mem.1 ((h2 (V i)).2 (numsL_mem.2 ⟨i, hi, rfl⟩))
    · exact numsL_mem.1 ((h2 (U j)).1 (numsL_mem.2 ⟨j, hj, rfl⟩))
/-- there is but one such list -/
theorem VarsP.ext {V U U' : Nat → Int} {n m m' : Nat} (h : VarsP V n U m) (h' : VarsP V n U' m') : m' = m ∧ ∀ j, j < m → U' j = U j := by
  obtain ⟨h1, h2⟩ := VarsP.iff.1 h
  obtain ⟨h3, h4⟩ := VarsP.iff.1 h'
  have e := asc_list_ext h1 h3 fun x => (h2 x).trans (h4 x).symm
  have hm : m' = m := by have := congrArg List.length e; rw [numsL_length, numsL_length] at this; exact this.symm
  subst hm
  refine ⟨rfl, fun j hj => ?_⟩
  have := List.getElem_of_eq e (i := j) (by rw [numsL_length]; exact hj)
  rw [numsL_get, numsL_get] at this
  exact this.symm
theorem compactUpTo_mem (d : Array Int) (x : Int) : ∀ m, x ∈ Lib.compactUpTo d m ↔ ∃ j, j < m ∧ d[j]! = x
  | 0 => by simp [Lib.compactUpTo]
  | m + 1 => by
    have ih := compactUpTo_mem d x m
    rw [Lib.compactUpTo_succ, List.mem_append, ih]
    constructor
    · rintro (⟨j, hj, e⟩ | h)
      · exact ⟨j, by omega, e⟩
      · split at h
        · exact ⟨m, by omega, (List.mem_singleton.1 h).symm⟩
        · cases h
    · rintro ⟨j, hj, e⟩
      by_cases h : j = m
      · subst h
        cases hk : Lib.keeps d j
        · unfold Lib.keeps at hk
          have hk := of_decide_eq_false hk
          refine .inl ⟨j - 1, by omega, ?_⟩
          by_cases e0 : d[j]! = d[j - 1]!
          · rw [← e0]; exact e
          · exact absurd (.inr e0) hk
        · rw [if_pos rfl]; exact .inr (List.mem_singleton.2 e.symm)
      · exact .inl ⟨j, by omega, e⟩
theorem compactUpTo_asc (d : Array Int) (n : Nat) (hs : ∀ i j, i ≤ j → j < n → d[i]! ≤ d[j]!) : ∀ m, m ≤ n → (Lib.compactUpTo d m).Pairwise (· < ·)
  | 0, _ => by simp [Lib.compactUpTo]
  | m + 1, hm => by
    have ih := compactUpTo_asc d n hs m (by omega)
    rw [Lib.compactUpTo_succ]
    cases hk : Lib.keeps d m
    · simpa using ih
    · rw [if_pos rfl]
      refine List.pairwise_append.2 ⟨ih, by simp, fun x hx y hy => ?_⟩
      obtain ⟨j, hj, rfl⟩ := (compactUpTo_mem d x m).1 hx
      obtain rfl := List.mem_singleton.1 hy
      unfold Lib.keeps at hk
      have hk := of_decide_eq_true hk
      have h1 := hs j (m - 1) (by omega) (by omega)
      have h2 := hs (m - 1) m (by omega) (by omega)
      omega
theorem VarsP.compact {V N' U : Nat → Int} {n k : Nat} (h1 : numsL N' n = (numsL V n).mergeSort fun x y => decide (x ≤ y)) (h2 : numsL U k = Lib.compact (numsL N' n)) : VarsP V n U k := by
  rw [VarsP.iff, h2]
  have hp : (numsL N' n).Pairwise (· ≤ ·) := by
    rw [h1]
    refine (List.pairwise_mergeSort (le := fun x y => decide (x ≤ y)) (fun a b c h h' => ?_) (fun a b => ?_) _).imp fun h => of_decide_eq_true h
    · have := of_decide_eq_true h; have := of_decide_eq_true h'; exact decide_eq_true (by omega)
    · by_cases h : a ≤ b
      · simp [h]
      · have : b ≤ a := by omega
        simp [this]
  have hg : ∀ j, j < n → (numsL N' n).toArray[j]! = N' j := fun j hj => by simp [numsL, hj]
  refine ⟨?_, fun x => ?_⟩
  · unfold Lib.compact
    rw [numsL_length]
    refine compactUpTo_asc _ n (fun i j hij hj => ?_) n (Nat.le_refl _)
    rw [hg i (by omega), hg j hj]
    by_cases e : i = j
    · subst e; exact Int.le_refl _
    · have := List.pairwise_iff_getElem.1 hp i j (by rw [numsL_length]; omega) (by rw [numsL_length]; omega) (by omega)
      rwa [numsL_get, numsL_get] at this
  · unfold Lib.compact
    rw [compactUpTo_mem, numsL_length]
    have hm : x ∈ numsL N' n ↔ x ∈ numsL V n := by rw [h1]; exact (List.mergeSort_perm _ _).mem_iff
    rw [← hm, numsL_mem]
    constructor
    · rintro ⟨j, hj, e⟩; exact ⟨j, hj, by rw [← hg j hj]; exact e⟩
    · rintro ⟨j, hj, e⟩; exact ⟨j, hj, by rw [hg j hj]; exact e⟩
end Go.VM

/- What a call made stays data; the objects it was given stay where they are. -/
set_option linter.unusedSimpArgs false
set_option linter.unusedVariables false
set_option linter.unusedSectionVars false
namespace Go.VM
theorem VCalls.ice [Glb] {P : Program} {K : FuncId} {args : List A} {H1 : AHeap} {R1 : A → AHeap → Prop} (h : VCalls P K args H1 R1) {R : A → AHeap → Prop}
    (hb : belH H1.length H1 = true) (ha : belA.belAs H1.length args = true) (hren : ren.renL (fun i => i) args = args) (hre2 : renH (fun i => i) H1 = H1)
    (hr : ∀ r H', R1 r H' → ∃ y H2 G, H' = H2 ++ G ∧ H2.length = H1.length ∧ FrzM H1.length (fun i => i) H' r y ∧ fzH H2 ∧ belH H2.length H2 = true ∧ renH (fun i => i) H2 = H2 ∧ R y H2) : VCalls P K args H1 R := by
  have idO : ∀ {L : AHeap}, renH (fun i => i) L = L → ∀ (i : Nat) x, L[i]? = some x → L[i]? = some (renO (fun i => i) x) := fun {L} e i x hx => by
    have : (renH (fun i => i) L)[i]? = some (renO (fun i => i) x) := by rw [renH_eq, List.getElem?_map, hx]; rfl
    rwa [e] at this
  have h1 : VCalls P K (ren.renL (fun i => i) args) H1 R := by
    refine h.frame H1 (fun i => i) (fun i j _ _ e => e) (idO hre2) (fun i x hx => belH_ok hb i x hx) (fun k hk => belAs_ok ha k hk) fun r1 H1' hR => ?_
    obtain ⟨y, H2, G, rfl, h2, h3, h4, h5, h6, h7⟩ := hr r1 H1' hR
    refine Ops.exists_one.elim fun inst => ?_
    let lim : Lim := ⟨fun _ _ => True⟩
    exact ⟨y, H2, H2, by rw [h2]; exact h3, by omega, fun i h8 h9 => by omega, leH_pre G h4, fun i x hx => belH_ok h5 i x hx, by omega, idO h6, fun o ho hno => absurd rfl (hno o ho), h7⟩
  rwa [hren] at h1
theorem FrzM.aggs5 [Glb] {m : Nat} {e : Nat → Nat} {H : AHeap} {a0 a1 a2 a3 a4 b0 b1 b2 b3 b4 : A} (h0 : FrzM m e H a0 b0) (h1 : FrzM m e H a1 b1) (h2 : FrzM m e H a2 b2) (h3 : FrzM m e H a3 b3) (h4 : FrzM m e H a4 b4) :
    FrzM m e H (.agg [a0, a1, a2, a3, a4]) (.agg [b0, b1, b2, b3, b4]) := .agg _ _ rfl fun k hk => by
  match k, hk with
  | 0, _ => exact h0
  | 1, _ => exact h1
  | 2, _ => exact h2
  | 3, _ => exact h3
  | 4, _ => exact h4
/-- a function of data that returns new objects of its own, over whatever heap -/
theorem VCalls.fresh2 [Glb] {P : Program} {K : FuncId} {ds : List D} {R1 : A → AHeap → Prop} (h : VCalls P K (ds.map .d) [] R1) (H : AHeap) {R : A → AHeap → Prop}
    (hr : ∀ r1 H1', R1 r1 H1' → Bel H1'.length r1 ∧ (∀ (i : Nat) x, H1'[i]? = some x → BelO H1'.length x) ∧ (∀ [Ops] [Lim], leH H1' H1') ∧ R (ren (fun i => H.length + i) r1) (H ++ H1'.map (renO (fun i => H.length + i)))) : VCalls P K (ds.map .d) H R := by
  have e0 : ds.map A.d = ren.renL (fun i => H.length + i) (ds.map .d) := (ren_ds _ ds).symm
  rw [e0]
  refine h.frame H (fun i => H.length + i) (fun i j _ _ e => by omega) (fun i x hx => by simp at hx) (fun i x hx => by simp at hx) (fun k hk => bel_ds _ ds k hk) fun r1 H1' hR => ?_
  obtain ⟨h1, h2, h3, h4⟩ := hr r1 H1' hR
  refine Ops.exists_one.elim fun inst => ?_
  let lim : Lim := ⟨fun _ _ => True⟩
  refine ⟨_, H1', _, .keep _ h1, Nat.zero_le _, fun i _ _ => rfl, h3, h2, by simp, fun i x hx => ?_, fun o ho _ => ?_, h4⟩
  · show (H ++ _)[H.length + i]? = _
    rw [List.getElem?_append_right (Nat.le_add_right _ _)]
    simp [hx]
  · rw [List.getElem?_append_left ho]
theorem VCalls.pureC2 [Glb] {P : Program} {K : FuncId} {args : List A} {R1 : A → AHeap → Prop} (h : VCalls P K args [] R1) (hb : belA.belAs 0 args = true) (hren : ren.renL (fun i => i) args = args) {S : A → Prop} (hr : ∀ r H', R1 r H' → ∃ y, FrzM 0 (fun i => i) H' r y ∧ S y) : VFun P K args S := fun H => by
  have h1 : VCalls P K (ren.renL (fun i => i) args) H (fun r H' => H' = H ∧ S r) := by
    refine h.frame H (fun i => i) (fun i j hi => absurd hi (Nat.not_lt_zero _)) (fun i x hx => by simp at hx) (fun i x hx => by simp at hx) (fun k hk => belAs_ok hb k hk) fun r1 H1' hR => ?_
    obtain ⟨y, h1, h2⟩ := hr r1 H1' hR
    refine Ops.exists_one.elim fun inst => ?_
    let lim : Lim := ⟨fun _ _ => True⟩
    exact ⟨y, [], H, h1, Nat.le_refl _, fun i _ hi => absurd hi (Nat.not_lt_zero _), trivial, fun i x hx => by simp at hx, by simp, fun i x hx => by simp at hx, fun o ho _ => rfl, rfl, h2⟩
  rwa [hren] at h1
end Go.VM
