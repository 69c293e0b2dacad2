/- Part of the proof: M5, VSo, M8, M9. -/
import Derived.Sort.Grow
import Derived.Lib.SlicesCompact
import Derived.Test.YtjfkhhenccochaaDoorGV5
/- Parts put in: how a list grows at its end. -/
namespace Go.VM
set_option linter.unusedVariables false
set_option linter.unusedSimpArgs false
def ext (f : Nat → Int) (m : Nat) (x : Int) : Nat → Int := fun j => if j = m then x else f j
theorem ext_eq (f : Nat → Int) (m : Nat) (x : Int) : ext f m x m = x := if_pos rfl
theorem ext_ne {f : Nat → Int} {m j : Nat} {x : Int} (h : j ≠ m) : ext f m x j = f j := if_neg h
theorem lst_ext (V P : Nat → Int) (m : Nat) (v p : Int) : lst (ext V m v) (ext P m p) (m + 1) = lst V P m ++ [(v, p)] := by
  show lst (ext V m v) (ext P m p) m ++ [(ext V m v m, ext P m p m)] = _
  rw [ext_eq, ext_eq, lst_congr (V := V) (P := P) (n := m) fun i hi => ⟨ext_ne (by omega), ext_ne (by omega)⟩]
theorem ext_row (V P : Nat → Int) (m : Nat) (v p : Int) (i j : Nat) (hi : i < m + 1) (hj : j < 2) : appF m (lvF V P) (rowF 2 [.int .i64 v, .int .i64 p]) i j = lvF (ext V m v) (ext P m p) i j :=
  app_row2 (g' := lvF (ext V m v) (ext P m p)) (fun i j h1 h2 => by
    match j, h2 with
    | 0, _ => simp only [lvF, ext_ne (show i ≠ m by omega)]
    | 1, _ => simp only [lvF, ext_ne (show i ≠ m by omega)]) (fun j hj => by
    match j, hj with
    | 0, _ => simp [lvF, ext_eq]
    | 1, _ => simp [lvF, ext_eq]) i j hi hj
theorem ext_row2 (V P : Nat → Int) (m : Nat) (v p v' p' : Int) (i j : Nat) (hi : i < m + 1 + 1) (hj : j < 2) :
    appF (m + 1) (appF m (lvF V P) (rowF 2 [.int .i64 v, .int .i64 p])) (rowF 2 [.int .i64 v', .int .i64 p']) i j = lvF (ext (ext V m v) (m + 1) v') (ext (ext P m p) (m + 1) p') i j := by
  rw [← ext_row _ _ _ _ _ i j hi hj]
  unfold appF
  by_cases h : i < m + 1
  · rw [if_pos h, if_pos h]
    exact ext_row V P m v p i j h hj
  · rw [if_neg h, if_neg h]
theorem putL_low {x : Pt} : ∀ {l r : List Pt}, (∀ y, y ∈ l → y.1 < x.1) → putL x (l ++ r) = l ++ putL x r
  | [], r, _ => rfl
  | y :: l, r, h => by
    have hy := h y (by simp)
    simp only [List.cons_append, putL]
    rw [if_neg (by omega), if_neg (by omega), putL_low fun z hz => h z (by simp [hz])]
theorem putL_end {x : Pt} {l : List Pt} (h : ∀ y, y ∈ l → y.1 < x.1) : putL x l = l ++ [x] := by
  have := putL_low (r := []) h
  simpa [putL] using this
theorem putL_snoc {x y : Pt} : ∀ {l : List Pt}, (∃ z, z ∈ l ∧ x.1 ≤ z.1) → (∀ z, z ∈ l → z.1 < y.1) → putL x (l ++ [y]) = putL x l ++ [y]
  | [], h, _ => by obtain ⟨z, hz, _⟩ := h; simp at hz
  | w :: l, h, hy => by
    simp only [List.cons_append, putL]
    split
    · rfl
    · split
      · rfl
      · rename_i h1 h2
        rw [List.cons_append, putL_snoc (l := l) ?_ fun z hz => hy z (by simp [hz])]
        obtain ⟨z, hz, hx⟩ := h
        rcases List.mem_cons.1 hz with rfl | hz
        · omega
        · exact ⟨z, hz, hx⟩
/-- what has been put so far -/
def PutS (V P : Nat → Int) (v p : Int) (i : Nat) (done : Bool) (l : List Pt) : Prop :=
  (done = false ∧ (∀ k, k < i → V k < v) ∧ l = lst V P i) ∨ (done = true ∧ (∃ k, k < i ∧ v ≤ V k) ∧ l = putL (v, p) (lst V P i))
theorem PutS.zero (V P : Nat → Int) (v p : Int) : PutS V P v p 0 false [] := .inl ⟨rfl, fun k hk => absurd hk (Nat.not_lt_zero _), rfl⟩
theorem PutS.lt {V P : Nat → Int} {v p : Int} {i : Nat} {l : List Pt} (h : PutS V P v p i false l) (hv : v < V i) : PutS V P v p (i + 1) true (l ++ [(v, p)] ++ [(V i, P i)]) := by
  rcases h with ⟨_, h1, rfl⟩ | ⟨h, _⟩
  · refine .inr ⟨rfl, ⟨i, by omega, by omega⟩, ?_⟩
    rw [lst, putL_low fun y hy => by obtain ⟨k, hk, rfl⟩ := lst_mem.1 hy; exact h1 k hk]
    simp [putL, hv]
  · cases h
theorem PutS.eq {V P : Nat → Int} {v p : Int} {i : Nat} {l : List Pt} (h : PutS V P v p i false l) (hv : v = V i) : PutS V P v p (i + 1) true (l ++ [(V i, max p (P i))]) := by
  rcases h with ⟨_, h1, rfl⟩ | ⟨h, _⟩
  · refine .inr ⟨rfl, ⟨i, by omega, by omega⟩, ?_⟩
    rw [lst, putL_low fun y hy => by obtain ⟨k, hk, rfl⟩ := lst_mem.1 hy; exact h1 k hk]
    simp [putL, hv]
  · cases h
theorem PutS.gt {V P : Nat → Int} {v p : Int} {i : Nat} {l : List Pt} (h : PutS V P v p i false l) (hv : V i < v) : PutS V P v p (i + 1) false (l ++ [(V i, P i)]) := by
  rcases h with ⟨_, h1, rfl⟩ | ⟨h, _⟩
  · refine .inl ⟨rfl, fun k hk => ?_, rfl⟩
    by_cases e : k = i
    · subst e; exact hv
    · exact h1 k (by omega)
  · cases h
theorem PutS.up {V P : Nat → Int} {v p : Int} {i n : Nat} {l : List Pt} (hasc : ∀ k l, k < l → l < n → V k < V l) (hi : i < n) (h : PutS V P v p i true l) : v < V i ∧ PutS V P v p (i + 1) true (l ++ [(V i, P i)]) := by
  rcases h with ⟨h, _⟩ | ⟨_, ⟨k, hk, hv⟩, rfl⟩
  · cases h
  · have := hasc k i hk hi
    refine ⟨by omega, .inr ⟨rfl, ⟨k, by omega, hv⟩, ?_⟩⟩
    rw [lst, putL_snoc ⟨_, lst_mem.2 ⟨k, hk, rfl⟩, hv⟩ fun y hy => by obtain ⟨j, hj, rfl⟩ := lst_mem.1 hy; exact hasc j i hj hi]
theorem PutS.fin {V P : Nat → Int} {v p : Int} {n : Nat} {d : Bool} {l : List Pt} (h : PutS V P v p n d l) : (d = true → l = putL (v, p) (lst V P n)) ∧ (d = false → l ++ [(v, p)] = putL (v, p) (lst V P n)) := by
  rcases h with ⟨rfl, h1, rfl⟩ | ⟨rfl, _, rfl⟩
  · exact ⟨fun h => (by cases h), fun _ => (putL_end fun y hy => by obtain ⟨k, hk, rfl⟩ := lst_mem.1 hy; exact h1 k hk).symm⟩
  · exact ⟨fun _ => rfl, fun h => (by cases h)⟩
end Go.VM

/- slices.Sort and slices.Compact over an own slice of numbers, from the kit's contracts. -/
set_option linter.unusedSimpArgs false
set_option linter.unusedVariables false
set_option linter.unusedSectionVars false
namespace Go.VM
open Go Go.Proofs Go.Sort
/-- numbers, as cells of a row -/
def nuF (N : Nat → Int) : Nat → Nat → D := fun i _ => .int .i64 (N i)
section
variable [Ops] [Glb] [Lim]
theorem arr_goes {I : Nat → Nat → Prop} {ι : Nat → Option Nat} {w w' : World} {n : Nat} {g g' : Nat → Nat → D} {b : Nat} {vs vs' : Array Value} {el : TypeId} {fr : Nat × Nat}
    (hI : ∀ b k, I b k → b < w.heap.size) (hn : Near w w' b (.slice none 0 0)) (hi : ι 0 = some b) (hb : w.heap[b]? = some (.cells vs el fr)) (hb' : w'.heap[b]? = some (.cells vs' el fr)) (hs : vs'.size = vs.size) (hF : ∀ k, ¬ I b k) :
    Goes w w' I I ι ι [.arr n 1 g 0] [.arr n 1 g' 0] := by
  have hsame : Same I w w' := fun a k h => by
    unfold World.cell?
    rw [hn.block a (hI a k h) (fun e => hF k (e ▸ h)) (by intro _ _ e; cases e)]
  refine ⟨hsame, fun _ _ h => h, Nat.le_refl _, fun o off len sz v ho h n' sz' get fz h2 hsz => ?_, fun o x ho h hx => ?_, fun o n' sz get fz ho h => ?_, fun o s p ho h => ?_⟩
  all_goals
    obtain rfl : o = 0 := by simpa using ho
    simp at *
  · obtain ⟨rfl, rfl, rfl, rfl⟩ := h2
    obtain ⟨h3, h4⟩ := h _ _ _ _ rfl rfl rfl rfl hsz
    refine ⟨h3, fun e => ?_⟩
    rcases h4 e with ⟨b1, cap, vs1, el1, fr1, a1, a2, a3, a4, a5⟩ | h5 | h5
    · obtain rfl : b = b1 := by rw [hi] at a1; exact Option.some.inj a1
      rw [hb] at a3
      cases a3
      exact .inl ⟨b, cap, vs', el, fr, hi, a2, hb', by rw [hs]; exact a4, a5⟩
    · exact .inr (.inl h5)
    · exact .inr (.inr h5)
  · subst h; cases hx
  · obtain ⟨rfl, rfl, rfl, rfl⟩ := h
    exact ⟨n, ⟨rfl, rfl⟩, Nat.le_refl _⟩
theorem arr_put {B : Gd} {I : Nat → Nat → Prop} {ι : Nat → Option Nat} {w w' : World} {n : Nat} {g g' : Nat → Nat → D} {b : Nat} {vs vs' : Array Value} {el : TypeId} {fr : Nat × Nat}
    (hrel : Rel B ι I w [.arr n 1 g 0]) (hn : Near w w' b (.slice none 0 0)) (hi : ι 0 = some b) (hB : ¬ B b) (hb : w.heap[b]? = some (.cells vs el fr)) (hb' : w'.heap[b]? = some (.cells vs' el fr)) (hs : vs'.size = vs.size) (hsz : n ≤ vs.size) (hF : Free w I b 0)
    (hv : ∀ i, i < n → RepD w' I (vs'.getD i undef) (g' i 0)) : Rel B ι I w' [.arr n 1 g' 0] ∧ Keep B w I ι [.arr n 1 g 0] w' I ι [.arr n 1 g' 0] := by
  have hF0 : ∀ k, ¬ I b k := fun k => hF.1 k (Nat.zero_le _)
  have g := arr_goes (g := g) (g' := g') (n := n) hrel.imm hn hi hb hb' hs hF0
  have hBb : ∀ a, B a → a ≠ b := fun a h e => hB (e ▸ h)
  refine ⟨⟨fun k hk => Nat.lt_of_lt_of_le (hrel.base k hk) hn.size, fun a k h => Nat.lt_of_lt_of_le (hrel.imm a k h) hn.size, hrel.low, g.glob hrel.glob, fun o x hx => ?_, fun o o' x x' a hx hx' _ _ _ _ => ?_⟩,
    ⟨⟨hn.os, hn.tape, hn.output, hn.size, fun k hk hk2 => hn.block k hk (hBb k hk2) (by intro _ _ e; cases e)⟩, g.same, fun _ _ h => h, Nat.le_refl _, fun v x h => h.goes g⟩⟩
  · have ho := (List.getElem?_eq_some_iff.1 hx).1
    obtain rfl : o = 0 := by simpa using ho
    simp at hx
    subst hx
    refine ⟨Nat.zero_le _, .inl ⟨b, vs', el, fr, hi, hB, hb', by omega, fun i j h1 h2 => ?_, fun k _ => hF0 k, fun k _ => ?_⟩⟩
    · obtain rfl : j = 0 := by omega
      simpa using hv i h1
    · have := hF.2 k (by omega)
      simpa [World.frozen?, hb, hb'] using this
  · have ho := (List.getElem?_eq_some_iff.1 hx).1
    have ho' := (List.getElem?_eq_some_iff.1 hx').1
    simp at ho ho'
    omega
theorem arr_cut {B : Gd} {I : Nat → Nat → Prop} {ι : Nat → Option Nat} {w : World} {n k : Nat} {g : Nat → Nat → D} {b : Nat} {vs : Array Value} {el : TypeId} {fr : Nat × Nat}
    (hrel : Rel B ι I w [.arr n 1 g 0]) (hi : ι 0 = some b) (hB : ¬ B b) (hb : w.heap[b]? = some (.cells vs el fr)) (hsz : n ≤ vs.size) (hF : Free w I b 0) (hk : k ≤ n)
    (hv : ∀ i, i < n → RepD w I (vs.getD i undef) (g i 0)) : Rel B (updι ι 1 (some b)) I w [.dead, .arr k 1 g 0] ∧ Keep B w I ι [.arr n 1 g 0] w I (updι ι 1 (some b)) [.dead, .arr k 1 g 0] := by
  have g : Goes w w I I ι (updι ι 1 (some b)) [.arr n 1 g 0] [.dead, .arr k 1 g 0] := by
    refine ⟨fun _ _ _ => rfl, fun _ _ h => h, by simp, fun o off len sz v ho h n' sz' get fz h2 hsz => ?_, fun o x ho h hx => ?_, fun o n' sz get fz ho h => ?_, fun o s p ho h => ?_⟩
    all_goals
      obtain rfl : o = 0 := by simpa using ho
      simp at *
    subst h; cases hx
  refine ⟨⟨hrel.base, hrel.imm, hrel.low, g.glob hrel.glob, fun o x hx => ?_, fun o o' x x' a hx hx' l1 l2 _ _ => ?_⟩, ⟨⟨rfl, rfl, rfl, Nat.le_refl _, fun _ _ _ => rfl⟩, fun _ _ _ => rfl, fun _ _ h => h, by simp, fun v x h => h.goes g⟩⟩
  · match o, hx with
    | 0, hx =>
      simp at hx
      subst hx
      trivial
    | 1, hx =>
      simp at hx
      subst hx
      exact ⟨Nat.zero_le _, .inl ⟨b, vs, el, fr, rfl, hB, hb, by omega, fun i j h1 h2 => by
        obtain rfl : j = 0 := by omega
        simpa using hv i (by omega), fun k _ => hF.1 k (Nat.zero_le _), fun k _ => hF.2 k (by omega)⟩⟩
    | o + 2, hx => simp at hx
  · have live : ∀ {o x}, ([.dead, .arr k 1 ‹Nat → Nat → D› 0] : AHeap)[o]? = some x → x.live → o = 1 := fun {o x} hx l => by
      match o, hx with
      | 0, hx => simp at hx; subst hx; exact l.elim
      | 1, hx => rfl
      | o + 2, hx => simp at hx
    rw [live hx l1, live hx' l2]
/-- an own slice of numbers, opened -/
theorem ref_open {B : Gd} {I : Nat → Nat → Prop} {ι : Nat → Option Nat} {w : World} {n : Nat} {N : Nat → Int} {v : Value} (hn : 0 < n) (hrel : Rel B ι I w [.arr n 1 (nuF N) 0]) (hv : RepA w I ι [.arr n 1 (nuF N) 0] v (.ref 0 0 n 1)) :
    ∃ b cap vs el fr, v = .slice (some ⟨b, 0, none⟩) n cap ∧ ι 0 = some b ∧ ¬ B b ∧ w.heap[b]? = some (.cells vs el fr) ∧ n ≤ vs.size ∧ cap ≤ vs.size ∧ n ≤ cap ∧ Free w I b 0 ∧ (∀ i, i < n → vs.getD i undef = .int .i64 (N i)) := by
  cases hv with | ref _ _ _ _ _ ho h hl =>
  obtain ⟨_, h2⟩ := h n 1 _ 0 rfl rfl
  rcases h2 (by omega) with ⟨b, cap, vs, el, fr, a1, a2, a3, a4, a5⟩ | ⟨_, _, e⟩ | ⟨_, _, e, _⟩
  · obtain ⟨_, c⟩ := hrel.obj 0 _ rfl
    rcases c with ⟨b1, vs1, el1, fr1, c1, c2, c3, c4, c5, c6⟩ | ⟨_, e⟩
    · obtain rfl : b = b1 := by rw [a1] at c1; exact Option.some.inj c1
      rw [a3] at c3
      cases c3
      refine ⟨b, cap, vs, el, fr, by simpa using a2, a1, c2, a3, by omega, by omega, a5, by simpa using c6, fun i hi => ?_⟩
      have := c5 i 0 hi (by omega)
      simp only [Nat.mul_one, Nat.add_zero] at this
      unfold nuF at this
      generalize hx : vs.getD i undef = x at this ⊢
      cases this
      rfl
    · omega
  · omega
  · omega
theorem put_near {w : World} {b n : Nat} {zs : List Int} {os : Array Obj} (hb : b < w.heap.size) : Near w (grow (putRow (Value.int .i64) (Sort.ahead w n) b 0 zs.toArray) os) b (.slice none 0 0) :=
  ⟨rfl, rfl, rfl, by simp [grow, putRow, mapBlock, Sort.ahead], fun k hk hkb _ => by
    rw [heap_grow_old _ _ (by simpa using hk)]
    simp only [putRow, mapBlock, heap_ahead, Array.getElem?_modify]
    rw [if_neg (Ne.symm hkb)]⟩
theorem put_at {w : World} {b n : Nat} {zs : List Int} {os : Array Obj} {vs : Array Value} {el : TypeId} {fr : Nat × Nat} (hb : w.heap[b]? = some (.cells vs el fr)) :
    (grow (putRow (Value.int .i64) (Sort.ahead w n) b 0 zs.toArray) os).heap[b]? = some (.cells (putCells (Value.int .i64) 0 zs.toArray vs) el fr) := by
  have hl := (Array.getElem?_eq_some_iff.1 hb).1
  rw [heap_grow_old _ _ (by simpa using hl)]
  simp only [putRow, mapBlock, heap_ahead, Array.getElem?_modify]
  rw [if_pos trivial, hb]
  rfl
theorem put_get {zs : List Int} {vs : Array Value} {i : Nat} (hi : i < zs.length) (hz : zs.length ≤ vs.size) : (putCells (Value.int .i64) 0 zs.toArray vs).getD i undef = .int .i64 (zs.getD i 0) := by
  rw [Array.getD_eq_getD_getElem?]
  unfold putCells
  rw [Array.getElem?_mapIdx, Array.getElem?_eq_getElem (by omega), Option.map_some]
  rw [if_pos ⟨Nat.zero_le _, by simpa using hi⟩]
  simp [hi]
end
def numsL (N : Nat → Int) (n : Nat) : List Int := (List.range n).map N
theorem numsL_length (N : Nat → Int) (n : Nat) : (numsL N n).length = n := by simp [numsL]
theorem numsL_getD (l : List Int) : numsL (fun i => l.getD i 0) l.length = l := by
  unfold numsL
  refine List.ext_getElem (by simp) fun i h1 h2 => ?_
  simp [h2]
theorem numsL_holds {w : World} {b n : Nat} {N : Nat → Int} {vs : Array Value} {el : TypeId} {fr : Nat × Nat} (hb : w.heap[b]? = some (.cells vs el fr)) (hsz : n ≤ vs.size) (hf : ∀ k, 0 ≤ k → w.frozen? ⟨b, k, none⟩ = false) (hv : ∀ i, i < n → vs.getD i undef = .int .i64 (N i)) :
    Holds (Value.int .i64) w b 0 (numsL N n).toArray := fun j hj => by
  have hj' : j < n := by simpa [numsL] using hj
  refine ⟨?_, hf _ (Nat.zero_le _)⟩
  unfold World.cell?
  have := hv j hj'
  rw [Array.getD_eq_getD_getElem?, Array.getElem?_eq_getElem (by omega)] at this
  simp [hb, numsL, hj']
  rw [Array.getElem?_eq_getElem (by omega)]
  exact congrArg some this
theorem VCalls.sortI [Glb] {Q : Program} {K : FuncId}
    (h : ∀ (blk cap : Nat) (zs : List Int) (w : World), Holds (Value.int .i64) w blk 0 zs.toArray → blk < w.heap.size → zs.length < 4611686018427387904 →
      Calls Q K #[.slice (some ⟨blk, 0, none⟩) zs.length cap] w fun e w' => e = .returned (.tuple #[]) ∧ ∃ n os, w' = grow (putRow (Value.int .i64) (Sort.ahead w n) blk 0 (zs.mergeSort fun x y => decide (x ≤ y)).toArray) os)
    {n : Nat} {N : Nat → Int} (hn : 0 < n) (hn2 : n < 4611686018427387904) : VCalls Q K [.ref 0 0 n 1] [.arr n 1 (nuF N) 0] (fun r H => r = .tup [] ∧ ∃ N', numsL N' n = ((numsL N n).mergeSort fun x y => decide (x ≤ y)) ∧ H = [.arr n 1 (nuF N') 0]) := by
  intro lim B ι I w vs0 hrel hargs
  refine Ops.exists_one.elim fun inst => ?_
  obtain ⟨hl, ha⟩ := hargs
  match vs0, hl with
  | [v], _ =>
  have hv := ha 0 (by simp)
  simp only [List.getD_cons_zero] at hv
  obtain ⟨b, cap, vs, el, fr, rfl, hi, hB, hb, hsz, _, hcap, hF, hN⟩ := ref_open hn hrel hv
  have hbl := (Array.getElem?_eq_some_iff.1 hb).1
  have key := h b cap (numsL N n) w (numsL_holds hb hsz hF.2 hN) hbl (by rw [numsL_length]; exact hn2)
  rw [numsL_length] at key
  refine key.mono ?_
  rintro e w' ⟨rfl, q, os, rfl⟩
  generalize hz : (numsL N n).mergeSort (fun x y => decide (x ≤ y)) = zs
  have hzl : zs.length = n := by rw [← hz, List.length_mergeSort, numsL_length]
  obtain ⟨r1, r2⟩ := arr_put (g' := nuF fun i => zs.getD i 0) hrel (put_near (n := q) (zs := zs) (os := os) hbl) hi hB hb (put_at hb) (by simp [putCells]) hsz hF fun i hi => by
    rw [put_get (by omega) (by omega)]
    exact .int _ _
  exact ⟨_, .tup [], [.arr n 1 (nuF fun i => zs.getD i 0) 0], ι, I, rfl, ⟨rfl, _, by rw [← hzl]; exact numsL_getD zs, rfl⟩, r1, .tup [] [] rfl (fun k hk => absurd hk (by simp)), r2⟩
theorem VCalls.compactI [Glb] {Q : Program} {K : FuncId}
    (h : ∀ (blk cap : Nat) (zs : List Int) (w : World), Holds (Value.int .i64) w blk 0 zs.toArray → zs.length ≤ 9223372036854775807 → zs.length ≤ cap →
      Calls Q K #[.slice (some ⟨blk, 0, none⟩) zs.length cap] w fun e w' => e = .returned (.slice (some ⟨blk, 0, none⟩) (Lib.compact zs).length cap) ∧ ∃ q, w' = putRow (Value.int .i64) (Sort.ahead w q) blk 0 (Lib.compact zs ++ List.replicate (zs.length - (Lib.compact zs).length) 0).toArray)
    {n : Nat} {N : Nat → Int} (hn : 0 < n) (hn2 : n ≤ 9223372036854775807) : VCalls Q K [.ref 0 0 n 1] [.arr n 1 (nuF N) 0] (fun r H => ∃ k N', numsL N' k = Lib.compact (numsL N n) ∧ k ≤ n ∧ r = .ref 1 0 k 1 ∧ H = [.dead, .arr k 1 (nuF N') 0]) := by
  intro lim B ι I w vs0 hrel hargs
  refine Ops.exists_one.elim fun inst => ?_
  obtain ⟨hl, ha⟩ := hargs
  match vs0, hl with
  | [v], _ =>
  have hv := ha 0 (by simp)
  simp only [List.getD_cons_zero] at hv
  obtain ⟨b, cap, vs, el, fr, rfl, hi, hB, hb, hsz, hcs, hcap, hF, hN⟩ := ref_open hn hrel hv
  have hbl := (Array.getElem?_eq_some_iff.1 hb).1
  have key := h b cap (numsL N n) w (numsL_holds hb hsz hF.2 hN) (by rw [numsL_length]; exact hn2) (by rw [numsL_length]; exact hcap)
  rw [numsL_length] at key
  refine key.mono ?_
  rintro e w' ⟨rfl, q, rfl⟩
  generalize hz : Lib.compact (numsL N n) = zs
  have hzl : zs.length ≤ n := by
    rw [← hz]
    unfold Lib.compact Lib.compactUpTo
    rw [List.length_map]
    refine Nat.le_trans (List.length_filter_le _ _) ?_
    rw [List.length_range, numsL_length]; exact Nat.le_refl _
  generalize hy : zs ++ List.replicate (n - zs.length) 0 = ys
  have hyl : ys.length = n := by rw [← hy]; simp; omega
  have hyg : ∀ i, i < zs.length → ys.getD i 0 = zs.getD i 0 := fun i hi => by rw [← hy]; simp [List.getElem?_append, hi]
  have e1 : putRow (Value.int .i64) (Sort.ahead w q) b 0 ys.toArray = grow (putRow (Value.int .i64) (Sort.ahead w q) b 0 ys.toArray) #[] := (grow_empty _).symm
  rw [e1]
  have hat := put_at (n := q) (zs := ys) (os := #[]) hb
  have hps : (putCells (Value.int .i64) 0 ys.toArray vs).size = vs.size := by simp [putCells]
  have hpv : ∀ (W : World) (J : Nat → Nat → Prop) i, i < n → RepD W J ((putCells (Value.int .i64) 0 ys.toArray vs).getD i undef) (nuF (fun i => ys.getD i 0) i 0) := fun W J i hi => by
    rw [put_get (by omega) (by omega)]
    exact .int _ _
  obtain ⟨r1, r2⟩ := arr_put (g' := nuF fun i => ys.getD i 0) hrel (put_near (n := q) (zs := ys) (os := #[]) hbl) hi hB hb hat hps hsz hF fun i hi => hpv _ _ i hi
  have hF' : Free (grow (putRow (Value.int .i64) (Sort.ahead w q) b 0 ys.toArray) #[]) I b 0 := ⟨hF.1, fun k hk => by
    have := hF.2 k hk
    rw [World.frozen?, hat]
    rw [World.frozen?, hb] at this
    exact this⟩
  obtain ⟨s1, s2⟩ := arr_cut (k := zs.length) r1 hi hB hat (by omega) hF' hzl fun i hi => hpv _ _ i hi
  refine ⟨_, .ref 1 0 zs.length 1, [.dead, .arr zs.length 1 (nuF fun i => ys.getD i 0) 0], _, I, rfl, ⟨zs.length, _, ?_, hzl, rfl, rfl⟩, s1, ?_, ⟨⟨s2.below.os.trans r2.below.os, s2.below.tape.trans r2.below.tape, s2.below.output.trans r2.below.output, Nat.le_trans r2.below.size s2.below.size, fun k hk hk2 => (s2.below.block k (Nat.lt_of_lt_of_le hk r2.below.size) hk2).trans (r2.below.block k hk hk2)⟩,
    r2.same, fun _ _ h => h, by simp, fun v x hx => s2.rep v x (r2.rep v x hx)⟩⟩
  · rw [← numsL_getD zs]
    unfold numsL
    simp only [List.length_map, List.length_range]
    exact List.map_congr_left fun i hi => by
      have := List.mem_range.1 hi
      rw [hyg i this]
  · refine .ref _ 1 0 zs.length 1 (by simp) (fun n' sz' get fz hx hs => ?_) ⟨_, _, rfl⟩
    simp at hx
    obtain ⟨rfl, rfl, rfl, rfl⟩ := hx
    refine ⟨by omega, fun _ => .inl ⟨b, cap, _, el, fr, rfl, rfl, hat, by omega, by omega⟩⟩
end Go.VM

/- What the assignments of LevelTells tell. -/
namespace Go.VM
set_option linter.unusedVariables false
set_option linter.unusedSimpArgs false

/-- the first m numbers are in ascending order -/
def ascF (U : Nat → Int) (m : Nat) : Prop := ∀ k l, k < l → l < m → U k < U l
theorem ascF.dist {U : Nat → Int} {m : Nat} (h : ascF U m) : dist U m := fun i k a b => by have := h k i a b; omega
theorem ascF.le {U : Nat → Int} {m j : Nat} (h : ascF U m) (hj : j < m) : U j ≤ U (m - 1) := by
  by_cases e : j = m - 1
  · rw [e]; exact Int.le_refl _
  · have := h j (m - 1) (by omega) (by omega); omega
/-- U are the first n numbers V, in ascending order -/
def VarsP (V : Nat → Int) (n : Nat) (U : Nat → Int) (m : Nat) : Prop := ascF U m ∧ (∀ i, i < n → ∃ j, j < m ∧ U j = V i) ∧ (∀ j, j < m → ∃ i, i < n ∧ V i = U j)
theorem mem_putL {x y : Pt} (hx : x.2 = 0) : ∀ {l : List Pt}, (∀ z, z ∈ l → z.2 = 0) → (y ∈ putL x l ↔ y = x ∨ y ∈ l)
  | [], _ => by simp [putL]
  | z :: r, h => by
    unfold putL
    have hz := h z List.mem_cons_self
    have ih := mem_putL (y := y) hx (l := r) fun w hw => h w (List.mem_cons_of_mem _ hw)
    split
    · simp
    · split
      · rename_i h1 h2
        have e : z = x := Prod.ext (by omega) (by omega)
        subst e
        have e2 : (z.1, max z.2 z.2) = z := Prod.ext rfl (by simp)
        simp_all
      · simp only [List.mem_cons, ih]
        constructor
        · rintro (h | h | h) <;> simp_all
        · rintro (h | h | h) <;> simp_all
theorem putL_zero {x : Pt} (hx : x.2 = 0) {l : List Pt} (h : ∀ z, z ∈ l → z.2 = 0) : ∀ z, z ∈ putL x l → z.2 = 0 := fun z hz => by
  rcases (mem_putL hx h).1 hz with rfl | h2
  · exact hx
  · exact h z h2
theorem mem_putsL {y : Pt} : ∀ {r l : List Pt}, (∀ z, z ∈ l → z.2 = 0) → (∀ z, z ∈ r → z.2 = 0) → (y ∈ putsL l r ↔ y ∈ l ∨ y ∈ r)
  | [], l, _, _ => by simp [putsL]
  | x :: r, l, h, hr => by
    have hx := hr x List.mem_cons_self
    have hr' : ∀ z, z ∈ r → z.2 = 0 := fun z hz => hr z (List.mem_cons_of_mem _ hz)
    unfold putsL
    rw [mem_putsL (putL_zero hx h) hr', mem_putL hx h]
    simp only [List.mem_cons]
    constructor
    · rintro ((h | h) | h) <;> simp_all
    · rintro (h | h | h) <;> simp_all
/-- the variables of parts that are put into order -/
theorem VarsP.puts {V U Z : Nat → Int} {n m : Nat} (h : lst U Z m = putsL [] (lst V (fun _ => 0) n)) : VarsP V n U m := by
  have h0 : ∀ z, z ∈ lst V (fun _ => 0) n → z.2 = 0 := fun z hz => by
    obtain ⟨i, _, rfl⟩ := lst_mem.1 hz; rfl
  have hm : ∀ y, y ∈ lst U Z m ↔ y ∈ lst V (fun _ => 0) n := fun y => by
    rw [h, mem_putsL (fun z hz => by cases hz) h0]
    simp
  have ha : asc (lst U Z m) := by rw [h]; exact putsL_asc (by simp [asc])
  refine ⟨asc_dist ha, fun i hi => ?_, fun j hj => ?_⟩
  · obtain ⟨j, hj, e⟩ := lst_mem.1 ((hm (V i, 0)).2 (lst_mem.2 ⟨i, hi, rfl⟩))
    exact ⟨j, hj, (congrArg Prod.fst e).symm⟩
  · obtain ⟨i, hi, e⟩ := lst_mem.1 ((hm (U j, Z j)).1 (lst_mem.2 ⟨j, hj, rfl⟩))
    exact ⟨i, hi, (congrArg Prod.fst e).symm⟩
/-- the list of numbers, as it stands after i choices -/
def pickN (U w : Nat → Int) (i : Nat) : Nat → Int := fun k => pickF U w i k
theorem pickN_zero (U w : Nat → Int) (k : Nat) : pickN U w 0 k = 0 := rfl
theorem pickN_succ (U w : Nat → Int) (i : Nat) (hU : 0 ≤ U i) (k : Nat) : pickN U w (i + 1) k = if k = (U i).toNat then w i else pickN U w i k := by
  unfold pickN
  rw [pickF]
  by_cases e : (k : Int) = U i
  · rw [if_pos e, if_pos (by omega)]
  · rw [if_neg e, if_neg (by omega)]
/-- what a level's variable reads there -/
theorem pick_at {V U w : Nat → Int} {n m i top k : Nat} (h : VarsP V n U m) (hi : i < n) (h0 : ∀ i, i < n → 0 ≤ V i) (ht : (top : Int) = if m = 0 then 0 else U (m - 1) + 1) (hw : ∀ j, 0 ≤ w j) : atF top (pickN U w k) (V i) = pickF U w k (V i) := by
  obtain ⟨j, hj, e⟩ := h.2.1 i hi
  have := h.1.le hj
  rw [if_neg (by omega)] at ht
  have h1 := h0 i hi
  have h2 := pickF_ge (U := U) hw k (V i)
  unfold atF
  rw [if_pos (by omega)]
  unfold pickN
  rw [Int.toNat_of_nonneg h1]
  omega
/-- the variables of a level among those of two -/
theorem VarsP.sub {V U V1 : Nat → Int} {n m n1 : Nat} (h : VarsP V n U m) (hs : ∀ i, i < n1 → ∃ j, j < n ∧ V j = V1 i) : ∀ i, i < n1 → ∃ j, j < m ∧ U j = V1 i := fun i hi => by
  obtain ⟨j, hj, e⟩ := hs i hi
  obtain ⟨k, hk, e2⟩ := h.2.1 j hj
  exact ⟨k, hk, e2.trans e⟩
theorem pick_at2 {V1 U w : Nat → Int} {n1 m i top k : Nat} (ha : ascF U m) (hs : ∀ i, i < n1 → ∃ j, j < m ∧ U j = V1 i) (hi : i < n1) (h0 : 0 ≤ V1 i) (ht : (top : Int) = if m = 0 then 0 else U (m - 1) + 1) (hw : ∀ j, 0 ≤ w j) : atF top (pickN U w k) (V1 i) = pickF U w k (V1 i) := by
  obtain ⟨j, hj, e⟩ := hs i hi
  have := ha.le hj
  rw [if_neg (by omega)] at ht
  have h2 := pickF_ge (U := U) hw k (V1 i)
  unfold atF
  rw [if_pos (by omega)]
  unfold pickN
  rw [Int.toNat_of_nonneg h0]
  omega
/-- the value at an assignment -/
theorem eval_pick {V1 P1 U w : Nat → Int} {c : Int} {n1 m top k : Nat} (ha : ascF U m) (hs : ∀ i, i < n1 → ∃ j, j < m ∧ U j = V1 i) (h0 : ∀ i, i < n1 → 0 ≤ V1 i) (ht : (top : Int) = if m = 0 then 0 else U (m - 1) + 1) (hw : ∀ j, 0 ≤ w j ∧ w j ≤ 2000000000) :
    evalF V1 P1 top (pickN U w k) c n1 = some (evV V1 P1 (pickF U w k) c n1) :=
  evalF_some V1 P1 top _ c _ n1 fun i hi => ⟨pick_at2 ha hs hi (h0 i hi) ht fun j => (hw j).1, by have := pickF_le (U := U) (b := 2000000000) (by decide) (fun j => (hw j).2) k (V1 i); omega⟩
end Go.VM

/- The variables of a level: sorted, and each once. -/
namespace Go.VM
open Go.Sort Go
set_option linter.unusedVariables false
set_option linter.unusedSimpArgs false
theorem asc_list_ext : ∀ {l r : List Int}, l.Pairwise (· < ·) → r.Pairwise (· < ·) → (∀ x, x ∈ l ↔ x ∈ r) → l = r
  | [], [], _, _, _ => rfl
  | [], y :: r, _, _, h => by have := (h y).2 List.mem_cons_self; cases this
  | x :: l, [], _, _, h => by have := (h x).1 List.mem_cons_self; cases this
  | x :: l, y :: r, hl, hr, h => by
    obtain ⟨l1, l2⟩ := List.pairwise_cons.1 hl
    obtain ⟨r1, r2⟩ := List.pairwise_cons.1 hr
    have e : x = y := by
      rcases List.mem_cons.1 ((h x).1 List.mem_cons_self) with e | h1
      · exact e
      · rcases List.mem_cons.1 ((h y).2 List.mem_cons_self) with e | h2
        · exact e.symm
        · have := r1 x h1; have := l1 y h2; omega
    subst e
    rw [asc_list_ext l2 r2 fun z => ?_]
    have hz := h z
    simp only [List.mem_cons] at hz
    constructor
    · intro hm
      rcases hz.1 (.inr hm) with e | e
      · have := l1 z hm; omega
      · exact e
    · intro hm
      rcases hz.2 (.inr hm) with e | e
      · have := r1 z hm; omega
      · exact e
theorem numsL_mem {N : Nat → Int} {n : Nat} {x : Int} : x ∈ numsL N n ↔ ∃ i, i < n ∧ N i = x := by
  unfold numsL
  simp
theorem numsL_get {N : Nat → Int} {n i : Nat} (h : i < (numsL N n).length) : (numsL N n)[i] = N i := by simp [numsL]
theorem numsL_pair {N : Nat → Int} {n : Nat} : ascF N n ↔ (numsL N n).Pairwise (· < ·) := by
  rw [List.pairwise_iff_getElem]
  constructor
  · intro h i j h1 h2 hij
    rw [numsL_get, numsL_get]
    exact h i j hij (by rwa [numsL_length] at h2)
  · intro h k l hkl hl
    have := h k l (by rw [numsL_length]; omega) (by rw [numsL_length]; omega) hkl
    rwa [numsL_get, numsL_get] at this
theorem VarsP.iff {V U : Nat → Int} {n m : Nat} : VarsP V n U m ↔ ((numsL U m).Pairwise (· < ·) ∧ ∀ x, x ∈ numsL U m ↔ x ∈ numsL V n) := by
  unfold VarsP
  rw [numsL_pair]
  constructor
  · rintro ⟨h1, h2, h3⟩
    refine ⟨h1, fun x => ?_⟩
    rw [numsL_mem, numsL_mem]
    constructor
    · rintro ⟨j, hj, rfl⟩; exact h3 j hj
    · rintro ⟨j, hj, rfl⟩; exact h2 j hj
  · rintro ⟨h1, h2⟩
    refine ⟨h1, fun i hi => ?_, fun j hj => ?_⟩
    · exact numsL_mem.1 ((h2 (V i)).2 (numsL_mem.2 ⟨i, hi, rfl⟩))
    · exact numsL_mem.1 ((h2 (U j)).1 (numsL_mem.2 ⟨j, hj, rfl⟩))
/-- there is but one such list -/
theorem VarsP.ext {V U U' : Nat → Int} {n m m' : Nat} (h : VarsP V n U m) (h' : VarsP V n U' m') : m' = m ∧ ∀ j, j < m → U' j = U j := by
  obtain ⟨h1, h2⟩ := VarsP.iff.1 h
  obtain ⟨h3, h4⟩ := VarsP.iff.1 h'
  have e := asc_list_ext h1 h3 fun x => (h2 x).trans (h4 x).symm
  have hm : m' = m := by have := congrArg List.length e; rw [numsL_length, numsL_length] at this; exact this.symm
  subst hm
  refine ⟨rfl, fun j hj => ?_⟩
  have := List.getElem_of_eq e (i := j) (by rw [numsL_length]; exact hj)
  rw [numsL_get, numsL_get] at this
  exact this.symm
theorem compactUpTo_mem (d : Array Int) (x : Int) : ∀ m, x ∈ Lib.compactUpTo d m ↔ ∃ j, j < m ∧ d[j]! = x
  | 0 => by simp [Lib.compactUpTo]
  | m + 1 => by
    have ih := compactUpTo_mem d x m
    rw [Lib.compactUpTo_succ, List.mem_append, ih]
    constructor
    · rintro (⟨j, hj, e⟩ | h)
      · exact ⟨j, by omega, e⟩
      · split at h
        · exact ⟨m, by omega, (List.mem_singleton.1 h).symm⟩
        · cases h
    · rintro ⟨j, hj, e⟩
      by_cases h : j = m
      · subst h
        cases hk : Lib.keeps d j
        · unfold Lib.keeps at hk
          have hk := of_decide_eq_false hk
          refine .inl ⟨j - 1, by omega, ?_⟩
          by_cases e0 : d[j]! = d[j - 1]!
          · rw [← e0]; exact e
          · exact absurd (.inr e0) hk
        · rw [if_pos rfl]; exact .inr (List.mem_singleton.2 e.symm)
      · exact .inl ⟨j, by omega, e⟩
theorem compactUpTo_asc (d : Array Int) (n : Nat) (hs : ∀ i j, i ≤ j → j < n → d[i]! ≤ d[j]!) : ∀ m, m ≤ n → (Lib.compactUpTo d m).Pairwise (· < ·)
  | 0, _ => by simp [Lib.compactUpTo]
  | m + 1, hm => by
    have ih := compactUpTo_asc d n hs m (by omega)
    rw [Lib.compactUpTo_succ]
    cases hk : Lib.keeps d m
    · simpa using ih
    · rw [if_pos rfl]
      refine List.pairwise_append.2 ⟨ih, by simp, fun x hx y hy => ?_⟩
      obtain ⟨j, hj, rfl⟩ := (compactUpTo_mem d x m).1 hx
      obtain rfl := List.mem_singleton.1 hy
      unfold Lib.keeps at hk
      have hk := of_decide_eq_true hk
      have h1 := hs j (m - 1) (by omega) (by omega)
      have h2 := hs (m - 1) m (by omega) (by omega)
      omega
theorem VarsP.compact {V N' U : Nat → Int} {n k : Nat} (h1 : numsL N' n = (numsL V n).mergeSort fun x y => decide (x ≤ y)) (h2 : numsL U k = Lib.compact (numsL N' n)) : VarsP V n U k := by
  rw [VarsP.iff, h2]
  have hp : (numsL N' n).Pairwise (· ≤ ·) := by
    rw [h1]
    refine (List.pairwise_mergeSort (le := fun x y => decide (x ≤ y)) (fun a b c h h' => ?_) (fun a b => ?_) _).imp fun h => of_decide_eq_true h
    · have := of_decide_eq_true h; have := of_decide_eq_true h'; exact decide_eq_true (by omega)
    · by_cases h : a ≤ b
      · simp [h]
      · have : b ≤ a := by omega
        simp [this]
  have hg : ∀ j, j < n → (numsL N' n).toArray[j]! = N' j := fun j hj => by simp [numsL, hj]
  refine ⟨?_, fun x => ?_⟩
  · unfold Lib.compact
    rw [numsL_length]
    refine compactUpTo_asc _ n (fun i j hij hj => ?_) n (Nat.le_refl _)
    rw [hg i (by omega), hg j hj]
    by_cases e : i = j
    · subst e; exact Int.le_refl _
    · have := List.pairwise_iff_getElem.1 hp i j (by rw [numsL_length]; omega) (by rw [numsL_length]; omega) (by omega)
      rwa [numsL_get, numsL_get] at this
  · unfold Lib.compact
    rw [compactUpTo_mem, numsL_length]
    have hm : x ∈ numsL N' n ↔ x ∈ numsL V n := by rw [h1]; exact (List.mergeSort_perm _ _).mem_iff
    rw [← hm, numsL_mem]
    constructor
    · rintro ⟨j, hj, e⟩; exact ⟨j, hj, by rw [← hg j hj]; exact e⟩
    · rintro ⟨j, hj, e⟩; exact ⟨j, hj, by rw [hg j hj]; exact e⟩
end Go.VM
