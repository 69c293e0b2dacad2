/- Part of the proof: VO2, M1, M2, M3, M4, VBd. -/
import Derived.Deep.Slices
import Derived.Shelf.Strings.BuilderF
import Derived.Test.YtjfkhhenccochaaDoorGV4
import Derived.Test.YtjfkhhenccochaaDoorGV1
/- Arguments opened: what a value of a type of numbers, texts, slices and structs stands for. -/
set_option linter.unusedSimpArgs false
set_option linter.unusedVariables false
namespace Go.VM
open Go Go.ChangeShapes Go.WideShapes Go.ChangeAt Go.RowKit

mutual
/-- data of a type -/
inductive Shp (P : Program) : TypeId → List D → Prop
  | int {t : TypeId} {k : IntKind} {n : Int} (h : P.underlying t = some (.int k)) (hw : (Lit.int k n).wf = true) : Shp P t [.int k n]
  | str {t : TypeId} {s : ByteArray} (h : P.underlying t = some .string) (hs : s.size ≤ maxLen) : Shp P t [.str s]
  | bool {t : TypeId} {b : Bool} (h : P.underlying t = some .bool) : Shp P t [.bool b]
  | slice {t e : TypeId} {n : Nat} {get : Nat → Nat → D} (h : P.underlying t = some (.slice e)) (hn : n ≤ maxLen) (hall : ∀ i, i < n → Shp P e ((List.range (P.cellsOf e)).map (get i))) : Shp P t [.sl n (P.cellsOf e) get]
  | struct {t : TypeId} {fs : Array Field} {ds : List D} (h : P.underlying t = some (.struct fs)) (hf : ShpF P fs.toList ds) : Shp P t ds
inductive ShpF (P : Program) : List Field → List D → Prop
  | nil : ShpF P [] []
  | cons {f : Field} {r : List Field} {d1 d2 : List D} (h1 : Shp P f.type d1) (hl : d1.length = P.cellsOf f.type) (h2 : ShpF P r d2) : ShpF P (f :: r) (d1 ++ d2)
end
theorem Shp.int_inv {P : Program} {t : TypeId} {k : IntKind} {ds : List D} (hu : P.underlying t = some (.int k)) (h : Shp P t ds) : ∃ n, ds = [.int k n] ∧ (Lit.int k n).wf = true := by
  cases h with
  | int h hw => rw [hu] at h; cases h; exact ⟨_, rfl, hw⟩
  | str h => rw [hu] at h; cases h
  | bool h => rw [hu] at h; cases h
  | slice h => rw [hu] at h; cases h
  | struct h => rw [hu] at h; cases h
theorem Shp.str_inv {P : Program} {t : TypeId} {ds : List D} (hu : P.underlying t = some .string) (h : Shp P t ds) : ∃ s, ds = [.str s] ∧ s.size ≤ maxLen := by
  cases h with
  | int h hw => rw [hu] at h; cases h
  | str h hs => exact ⟨_, rfl, hs⟩
  | bool h => rw [hu] at h; cases h
  | slice h => rw [hu] at h; cases h
  | struct h => rw [hu] at h; cases h
theorem Shp.bool_inv {P : Program} {t : TypeId} {ds : List D} (hu : P.underlying t = some .bool) (h : Shp P t ds) : ∃ b, ds = [.bool b] := by
  cases h with
  | int h hw => rw [hu] at h; cases h
  | str h => rw [hu] at h; cases h
  | bool h => exact ⟨_, rfl⟩
  | slice h => rw [hu] at h; cases h
  | struct h => rw [hu] at h; cases h
theorem Shp.slice_inv {P : Program} {t e : TypeId} {ds : List D} (hu : P.underlying t = some (.slice e)) (h : Shp P t ds) :
    ∃ n get, ds = [.sl n (P.cellsOf e) get] ∧ n ≤ maxLen ∧ ∀ i, i < n → Shp P e ((List.range (P.cellsOf e)).map (get i)) := by
  cases h with
  | int h hw => rw [hu] at h; cases h
  | str h => rw [hu] at h; cases h
  | bool h => rw [hu] at h; cases h
  | slice h hn hall => rw [hu] at h; cases h; exact ⟨_, _, rfl, hn, hall⟩
  | struct h => rw [hu] at h; cases h
theorem Shp.struct_inv {P : Program} {t : TypeId} {fs : Array Field} {ds : List D} (hu : P.underlying t = some (.struct fs)) (h : Shp P t ds) : ShpF P fs.toList ds := by
  cases h with
  | int h hw => rw [hu] at h; cases h
  | str h => rw [hu] at h; cases h
  | bool h => rw [hu] at h; cases h
  | slice h => rw [hu] at h; cases h
  | struct h hf => rw [hu] at h; cases h; exact hf

def seqF (P : Program) : Nat → List Field → Nat → Bool
  | off, [], n => Nat.beq off n
  | off, f :: r, n => Nat.beq f.offset off && seqF P (off + P.cellsOf f.type) r n
/-- the types of a list read plainly -/
def plainT (P : Program) (ts : List TypeId) (t : TypeId) : Bool :=
  match P.underlying t with
  | some (.int _) => Nat.beq (P.cellsOf t) 1
  | some .string => Nat.beq (P.cellsOf t) 1
  | some .bool => Nat.beq (P.cellsOf t) 1
  | some (.slice e) => ts.contains e && Nat.blt 0 (P.cellsOf e) && Nat.beq (P.cellsOf t) 1
  | some (.struct fs) => fs.toList.all (fun f => ts.contains f.type) && seqF P 0 fs.toList (P.cellsOf t)
  | _ => false

variable {H : Type} {enc : TypeId × Value → H} {P : Program} {w : World} {base : Nat} {sp : Nat → Bool} {held : Bool}

theorem fields_open {ts : List TypeId} {m : Nat} (ih : ∀ t cs x, t ∈ ts → DataW.trod enc P w base sp held m t cs = some x → ∃ ds : List D, ds.length = cs.length ∧ cs.length = P.cellsOf t ∧ (∀ k, k < ds.length → RepD w (fun b _ => b < w.heap.size) (cs.getD k undef) (ds.getD k .nilp)) ∧ Shp P t ds)
    (cs : List Value) : ∀ (l : List Field) (off : Nat), (∀ f, f ∈ l → f.type ∈ ts) → seqF P off l cs.length = true → (∀ f, f ∈ l → ∃ x, DataW.trod enc P w base sp held m f.type (List.take (P.cellsOf f.type) (List.drop f.offset cs)) = some x) →
    ∃ ds : List D, ds.length + off = cs.length ∧ (∀ k, k < ds.length → RepD w (fun b _ => b < w.heap.size) (cs.getD (off + k) undef) (ds.getD k .nilp)) ∧ ShpF P l ds
  | [], off, _, hs, _ => ⟨[], by simp only [seqF, Nat.beq_eq] at hs; simpa using hs, fun k hk => absurd hk (by simp), .nil⟩
  | f :: r, off, ht, hs, hx => by
    simp only [seqF, Bool.and_eq_true, Nat.beq_eq] at hs
    obtain ⟨x, hx0⟩ := hx f (by simp)
    obtain ⟨d1, h1, h2, h3, h4⟩ := ih _ _ x (ht f (by simp)) hx0
    obtain ⟨d2, k1, k2, k3⟩ := fields_open ih cs r (off + P.cellsOf f.type) (fun g hg => ht g (by simp [hg])) hs.2 (fun g hg => hx g (by simp [hg]))
    refine ⟨d1 ++ d2, by simp only [List.length_append]; omega, fun k hk => ?_, .cons h4 (h1.trans h2) k3⟩
    by_cases h : k < d1.length
    · have e1 : (d1 ++ d2).getD k .nilp = d1.getD k .nilp := by simp [List.getD_eq_getElem?_getD, List.getElem?_append, h]
      have e2 : (List.take (P.cellsOf f.type) (List.drop f.offset cs)).getD k undef = cs.getD (off + k) undef := by
        simp only [List.getD_eq_getElem?_getD, List.getElem?_take, List.getElem?_drop, hs.1]
        rw [if_pos (by omega)]
      rw [e1, ← e2]
      exact h3 k h
    · have e1 : (d1 ++ d2).getD k .nilp = d2.getD (k - d1.length) .nilp := by simp [List.getD_eq_getElem?_getD, List.getElem?_append, h]
      rw [e1]
      simp only [List.length_append] at hk
      have := k2 (k - d1.length) (by omega)
      rwa [show off + P.cellsOf f.type + (k - d1.length) = off + k by omega] at this

theorem mapM_some {α β : Type} {f : α → Option β} : ∀ {l : List α} {ys : List β}, l.mapM f = some ys → ∀ x, x ∈ l → ∃ y, f x = some y
  | [], _, _, x, hx => by simp at hx
  | a :: l, ys, h, x, hx => by
    rw [List.mapM_cons] at h
    cases hf : f a with
    | none => rw [hf] at h; cases h
    | some y =>
      rw [hf] at h
      cases hl : l.mapM f with
      | none => rw [hl] at h; cases h
      | some zs =>
        rcases List.mem_cons.1 hx with rfl | hx
        · exact ⟨y, hf⟩
        · exact mapM_some hl x hx
theorem slice_elem {fuel : Nat} {t e : TypeId} {a : Addr} {len cap : Nat} {x : DataW H × List MemPlace} (hu : P.underlying t = some (.slice e)) (h : DataW.trod enc P w base sp held (fuel + 1) t [.slice (some a) len cap] = some x) (i : Nat) (hi : i < len) :
    ∃ y, (w.cells? base (a.add (i * P.cellsOf e)) (P.cellsOf e)).bind (DataW.trod enc P w base sp held fuel e) = some y := by
  simp only [DataW.trod, hu] at h
  split at h
  · cases hm : (List.range len).mapM fun i => (w.cells? base (a.add (i * P.cellsOf e)) (P.cellsOf e)).bind (DataW.trod enc P w base sp held fuel e) with
    | none => rw [hm] at h; cases h
    | some ys => exact mapM_some hm i (by simpa using hi)
  · cases h
theorem trod_open {ts : List TypeId} (hts : ∀ t, t ∈ ts → plainT P ts t = true) : ∀ (fuel : Nat) (t : TypeId) (cs : List Value) (x : DataW H × List MemPlace), t ∈ ts → DataW.trod enc P w base sp held fuel t cs = some x →
    ∃ ds : List D, ds.length = cs.length ∧ cs.length = P.cellsOf t ∧ (∀ k, k < ds.length → RepD w (fun b _ => b < w.heap.size) (cs.getD k undef) (ds.getD k .nilp)) ∧ Shp P t ds
  | 0, t, cs, x, _, h => by simp [DataW.trod] at h
  | fuel + 1, t, cs, x, ht, h => by
    have hp := hts t ht
    have one : ∀ {v : Value} {d : D}, cs = [v] → RepD w (fun b _ => b < w.heap.size) v d → P.cellsOf t = 1 → Shp P t [d] → ∃ ds : List D, ds.length = cs.length ∧ cs.length = P.cellsOf t ∧ (∀ k, k < ds.length → RepD w (fun b _ => b < w.heap.size) (cs.getD k undef) (ds.getD k .nilp)) ∧ Shp P t ds := fun {v d} e hr hc hs => by
      subst e
      refine ⟨[d], rfl, by simp [hc], fun k hk => ?_, hs⟩
      obtain rfl : k = 0 := by simpa using hk
      simpa using hr
    unfold plainT at hp
    split at hp
    · rename_i k hu
      obtain ⟨n, rfl, _, hw⟩ := DataW.trod_int hu h
      exact one rfl (.int k n) (by simpa using hp) (.int hu hw)
    · rename_i hu
      obtain ⟨s, rfl, _, hs⟩ := DataW.trod_string hu h
      exact one rfl (.str s) (by simpa using hp) (.str hu hs)
    · rename_i hu
      obtain ⟨b, rfl, _⟩ := DataW.trod_bool hu h
      exact one rfl (.bool b) (by simpa using hp) (.bool hu)
    · rename_i e hu
      simp only [Bool.and_eq_true, Nat.beq_eq, Nat.blt_eq] at hp
      have he : e ∈ ts := by simpa using hp.1.1
      rcases Go.Deep.open_slice hu h with ⟨rfl, _⟩ | ⟨a, len, cap, m, n, D', Pl, rfl, hb, hl, hm, hmm, hx, hall⟩
      · exact one (d := .sl 0 (P.cellsOf e) (fun _ _ => .nilp)) rfl (.sl0 _ _ _ _) hp.2 (.slice hu (Nat.zero_le _) fun i hi => absurd hi (Nat.not_lt_zero _))
      · have hlm : len ≤ m := by rw [hmm]; split <;> omega
        by_cases h0 : len = 0
        · subst h0
          exact one (d := .sl 0 (P.cellsOf e) (fun _ _ => .nilp)) rfl (.sl0 _ _ _ _) hp.2 (.slice hu (Nat.zero_le _) fun i hi => absurd hi (Nat.not_lt_zero _))
        have each : ∀ i, i < len → ∃ cs' : List Value, ∃ ds : List D, w.cells? base (a.add (i * P.cellsOf e)) (P.cellsOf e) = some cs' ∧ ds.length = cs'.length ∧ cs'.length = P.cellsOf e ∧ (∀ k, k < ds.length → RepD w (fun b _ => b < w.heap.size) (cs'.getD k undef) (ds.getD k .nilp)) ∧ Shp P e ds := fun i hi => by
          obtain ⟨y, hy⟩ := slice_elem hu h i hi
          cases hc : w.cells? base (a.add (i * P.cellsOf e)) (P.cellsOf e) with
          | none => rw [hc] at hy; cases hy
          | some cs' =>
            rw [hc] at hy
            obtain ⟨ds, d1, d2, d3, d4⟩ := trod_open hts fuel e cs' y he hy
            exact ⟨cs', ds, rfl, d1, d2, d3, d4⟩
        let Q : Nat → List D := fun i => if h : i < len then (each i h).choose_spec.choose else []
        have hQ : ∀ i, i < len → ∃ cs' : List Value, w.cells? base (a.add (i * P.cellsOf e)) (P.cellsOf e) = some cs' ∧ (Q i).length = cs'.length ∧ cs'.length = P.cellsOf e ∧ (∀ k, k < (Q i).length → RepD w (fun b _ => b < w.heap.size) (cs'.getD k undef) ((Q i).getD k .nilp)) ∧ Shp P e (Q i) := fun i hi => by
          simp only [Q, dif_pos hi]
          exact ⟨_, (each i hi).choose_spec.choose_spec⟩
        have hcell : ∀ i j, i < len → j < P.cellsOf e → ∃ v, w.cell? (a.add (i * P.cellsOf e + j)) = some v ∧ RepD w (fun b _ => b < w.heap.size) v ((Q i).getD j .nilp) := fun i j hi hj => by
          obtain ⟨cs', q1, q2, q3, q4, q5⟩ := hQ i hi
          obtain ⟨_, c2, c3⟩ := World.cells?_some q1
          have := c3 j hj
          rw [Go.Deep.add_add] at this
          have hjl : j < cs'.length := by omega
          rw [List.getElem?_eq_getElem hjl] at this
          have q := q4 j (by omega)
          rw [List.getD_eq_getElem?_getD, List.getElem?_eq_getElem hjl] at q
          exact ⟨_, this, q⟩
        obtain ⟨v0, z0, _⟩ := hcell 0 0 (by omega) hp.1.2
        obtain ⟨b, o, spt⟩ := a
        simp only [Nat.zero_mul, Nat.zero_add] at z0
        have hsp : spt = none := by
          have z : w.cell? ((⟨b, o, spt⟩ : Addr).add 0) = some v0 := z0
          unfold World.cell? at z
          split at z
          · cases spt with
            | none => rfl
            | some x => simp [Addr.add] at z
          · cases z
        subst hsp
        have hadd : ∀ j, (⟨b, o, none⟩ : Addr).add j = ⟨b, o + j, none⟩ := fun j => by unfold Addr.add; split <;> simp_all
        have hlt : b < w.heap.size := by
          rw [hadd] at z0
          unfold World.cell? at z0
          split at z0
          · rename_i c _ _ hc; exact (Array.getElem?_eq_some_iff.1 hc).1
          · cases z0
        refine one (d := .sl len (P.cellsOf e) (fun i j => (Q i).getD j .nilp)) rfl (.sl b o len cap _ _ (fun i j => (w.cell? ⟨b, o + (i * P.cellsOf e + j), none⟩).getD undef) hl (fun i j hi hj => ⟨hlt, ?_⟩) (fun i j hi hj => ?_)) hp.2 (.slice hu (by omega) fun i hi => ?_)
        · obtain ⟨v, h1, h2⟩ := hcell i j hi hj
          rw [hadd] at h1
          rw [h1]; rfl
        · obtain ⟨v, h1, h2⟩ := hcell i j hi hj
          rw [hadd] at h1
          rw [h1]; exact h2
        · obtain ⟨cs', q1, q2, q3, q4, q5⟩ := hQ i hi
          have : (List.range (P.cellsOf e)).map (fun j => (Q i).getD j .nilp) = Q i := by
            apply List.ext_getElem
            · simp; omega
            · intro k h1 h2
              simp [List.getD_eq_getElem?_getD, List.getElem?_eq_getElem h2]
          rw [this]; exact q5
    · rename_i fs hu
      simp only [Bool.and_eq_true, List.all_eq_true] at hp
      obtain ⟨xs, n, hn, hxx, hlen, hlx, hfs⟩ := DataW.trod_struct hu h
      obtain rfl : fuel = n := by omega
      obtain ⟨ds, h1, h2, h3⟩ := fields_open (enc := enc) (base := base) (sp := sp) (held := held) (ts := ts) (m := fuel) (fun t cs x ht h => trod_open hts fuel t cs x ht h) cs fs.toList 0 (fun f hf => by simpa using hp.1 f hf) (by rw [hlen]; exact hp.2) (fun f hf => by
        obtain ⟨i, hi, rfl⟩ := List.getElem_of_mem hf
        have hi' : i < fs.size := by simpa using hi
        have := hfs i fs[i] (by simp [hi'])
        rw [List.getElem?_eq_getElem (by omega)] at this
        exact ⟨_, by simpa using this⟩)
      exact ⟨ds, by omega, hlen, fun k hk => by simpa using h2 k hk, .struct hu h3⟩
    · cases hp
end Go.VM

/- Levels: what it is to be valid, the order, the value, and how the order is told by values. -/
namespace Go.VM
set_option linter.unusedVariables false
set_option linter.unusedSimpArgs false

/-- the parts of a level, as data -/
def lvF (V P : Nat → Int) : Nat → Nat → D := fun i j => match j with | 0 => .int .i64 (V i) | _ => .int .i64 (P i)
def PartP (V P : Nat → Int) (i : Nat) : Prop := 0 ≤ V i ∧ V i < 1200 ∧ 0 ≤ P i ∧ P i ≤ 1000 ∧ ∀ k, k < i → V k ≠ V i
def ValidP (c : Int) (n : Nat) (V P : Nat → Int) : Prop := 0 ≤ c ∧ c ≤ 1000 ∧ n ≤ 8 ∧ ∀ i, i < n → PartP V P i
def mostF (P : Nat → Int) : Nat → Int
  | 0 => -1
  | n + 1 => max (mostF P n) (P n)
def leastF (P : Nat → Int) (c : Int) : Nat → Int
  | 0 => c
  | n + 1 => max (leastF P c n) (P n)
def InP (V P : Nat → Int) (n' : Nat) (V' P' : Nat → Int) (i : Nat) : Prop := ∃ k, k < n' ∧ V' k = V i ∧ P i ≤ P' k
def LeqP (c : Int) (n : Nat) (V P : Nat → Int) (c' : Int) (n' : Nat) (V' P' : Nat → Int) : Prop :=
  (∀ i, i < n → InP V P n' V' P' i) ∧ c ≤ max c' (mostF P' n')

theorem mostF_le (P : Nat → Int) : ∀ (n : Nat) (i : Nat), i < n → P i ≤ mostF P n
  | n + 1, i, h => by
    unfold mostF
    by_cases e : i = n
    · subst e; omega
    · have := mostF_le P n i (by omega); omega
theorem mostF_ge (P : Nat → Int) : ∀ n, -1 ≤ mostF P n
  | 0 => by unfold mostF; omega
  | n + 1 => by have := mostF_ge P n; unfold mostF; omega
theorem leastF_most (P : Nat → Int) (c : Int) (hc : 0 ≤ c) : ∀ n, leastF P c n = max c (mostF P n)
  | 0 => by unfold leastF mostF; omega
  | n + 1 => by have := leastF_most P c hc n; unfold leastF mostF; omega
theorem mostF_lub (P : Nat → Int) (b : Int) (hb : -1 ≤ b) : ∀ n, (∀ i, i < n → P i ≤ b) → mostF P n ≤ b
  | 0, _ => by unfold mostF; omega
  | n + 1, h => by have := mostF_lub P b hb n (fun i hi => h i (by omega)); have := h n (by omega); unfold mostF; omega

theorem leq_least {c c' : Int} {n n' : Nat} {V P V' P' : Nat → Int} (hc : 0 ≤ c) (hc' : 0 ≤ c') (h : ∀ i, i < n → InP V P n' V' P' i) :
    c ≤ max c' (mostF P' n') ↔ leastF P c n ≤ leastF P' c' n' := by
  rw [leastF_most P c hc, leastF_most P' c' hc']
  have : mostF P n ≤ mostF P' n' := mostF_lub P _ (mostF_ge _ _) n fun i hi => by
    obtain ⟨k, h1, h2, h3⟩ := h i hi
    have := mostF_le P' n' k h1
    omega
  omega

theorem LeqP_ref {c c' : Int} {n n' : Nat} {V P V' P' : Nat → Int} (hc : 0 ≤ c) (hc' : 0 ≤ c') :
    LeqP c n V P c' n' V' P' ↔ leastF P c n ≤ leastF P' c' n' ∧ ∀ i, i < n → InP V P n' V' P' i :=
  ⟨fun ⟨h1, h2⟩ => ⟨(leq_least hc hc' h1).1 h2, h1⟩, fun ⟨h1, h2⟩ => ⟨h2, (leq_least hc hc' h2).2 h1⟩⟩

/-- the value of a variable -/
def atF (m : Nat) (N : Nat → Int) (v : Int) : Int := if v < m then max (N v.toNat) 0 else 0
/-- the value of a level's first parts; none: a number out of range -/
def evalF (V P : Nat → Int) (m : Nat) (N : Nat → Int) (c : Int) : Nat → Option Int
  | 0 => some c
  | n + 1 => match evalF V P m N c n with
    | none => none
    | some x => if atF m N (V n) > 2147483647 then none else some (max x (atF m N (V n) + P n))

theorem evalF_none (V P : Nat → Int) (m : Nat) (N : Nat → Int) (c : Int) : ∀ n i, i < n → atF m N (V i) > 2147483647 → evalF V P m N c n = none
  | n + 1, i, h, hv => by
    unfold evalF
    by_cases e : i = n
    · subst e
      split
      · rfl
      · rw [if_pos hv]
    · rw [evalF_none V P m N c n i (by omega) hv]

/-- the value where all numbers are in range -/
def evV (V P : Nat → Int) (x : Int → Int) (c : Int) : Nat → Int
  | 0 => c
  | n + 1 => max (evV V P x c n) (x (V n) + P n)
theorem evalF_some (V P : Nat → Int) (m : Nat) (N : Nat → Int) (c : Int) (x : Int → Int) : ∀ n, (∀ i, i < n → atF m N (V i) = x (V i) ∧ x (V i) ≤ 2147483647) → evalF V P m N c n = some (evV V P x c n)
  | 0, _ => rfl
  | n + 1, h => by
    obtain ⟨h1, h2⟩ := h n (by omega)
    unfold evalF evV
    rw [evalF_some V P m N c x n fun i hi => h i (by omega), h1]
    dsimp only
    rw [if_neg (by omega)]
theorem evV_ge (V P : Nat → Int) (x : Int → Int) (c : Int) : ∀ n, c ≤ evV V P x c n ∧ ∀ i, i < n → x (V i) + P i ≤ evV V P x c n
  | 0 => ⟨Int.le_refl _, fun i h => by omega⟩
  | n + 1 => by
    obtain ⟨h1, h2⟩ := evV_ge V P x c n
    unfold evV
    refine ⟨by omega, fun i hi => ?_⟩
    by_cases e : i = n
    · subst e; omega
    · have := h2 i (by omega); omega
theorem evV_le (V P : Nat → Int) (x : Int → Int) (c b : Int) (hc : c ≤ b) : ∀ n, (∀ i, i < n → x (V i) + P i ≤ b) → evV V P x c n ≤ b
  | 0, _ => hc
  | n + 1, h => by
    have h1 := evV_le V P x c b hc n fun i hi => h i (by omega)
    have h2 := h n (by omega)
    unfold evV; omega

theorem evV_most {V P : Nat → Int} {x : Int → Int} {c : Int} {n : Nat} (hx : ∀ v, 0 ≤ x v) (hc : 0 ≤ c) : max c (mostF P n) ≤ evV V P x c n := by
  obtain ⟨e1, e2⟩ := evV_ge V P x c n
  have := mostF_lub P (evV V P x c n) (by omega) n fun i hi => by have := e2 i hi; have := hx (V i); omega
  omega
theorem leq_ev {c c' : Int} {n n' : Nat} {V P V' P' : Nat → Int} (x : Int → Int) (hx : ∀ v, 0 ≤ x v) (hc : 0 ≤ c') (h : LeqP c n V P c' n' V' P') : evV V P x c n ≤ evV V' P' x c' n' := by
  obtain ⟨h1, h2⟩ := h
  have := evV_most (V := V') (P := P') (n := n') hx hc
  refine evV_le V P x c _ (by omega) n fun i hi => ?_
  obtain ⟨k, k1, k2, k3⟩ := h1 i hi
  have := (evV_ge V' P' x c' n').2 k k1
  rw [k2] at this
  omega
theorem leq_of_ev {c c' : Int} {n n' : Nat} {V P V' P' : Nat → Int} (ha : ValidP c n V P) (hb : ValidP c' n' V' P')
    (h0 : evV V P (fun _ => 0) c n ≤ evV V' P' (fun _ => 0) c' n') (h1 : ∀ i, i < n → evV V P (fun v => if v = V i then 1001 else 0) c n ≤ evV V' P' (fun v => if v = V i then 1001 else 0) c' n') : LeqP c n V P c' n' V' P' := by
  obtain ⟨a1, a2, a3, a4⟩ := ha
  obtain ⟨b1, b2, b3, b4⟩ := hb
  refine ⟨fun i hi => ?_, ?_⟩
  · refine Classical.byContradiction fun hno => ?_
    have hno : ∀ k, k < n' → V' k = V i → P' k < P i := fun k hk e => by
      by_cases h : P i ≤ P' k
      · exact absurd ⟨k, hk, e, h⟩ hno
      · omega
    have h := h1 i hi
    have g1 := (evV_ge V P (fun v => if v = V i then 1001 else 0) c n).2 i hi
    have g2 := evV_le V' P' (fun v => if v = V i then 1001 else 0) c' (1000 + P i) (by have := (a4 i hi).2.2.1; omega) n' fun k hk => by
      obtain ⟨_, _, p1, p2, _⟩ := b4 k hk
      have := (a4 i hi).2.2.1
      show (if V' k = V i then (1001 : Int) else 0) + P' k ≤ 1000 + P i
      split
      · rename_i e
        have := hno k hk e
        omega
      · omega
    simp only [if_true] at g1
    omega
  · have g1 := (evV_ge V P (fun _ => 0) c n).1
    have g2 := evV_le V' P' (fun _ => 0) c' (max c' (mostF P' n')) (by omega) n' fun k hk => by
      have := mostF_le P' n' k hk
      omega
    omega
end Go.VM

/- Lists of parts in ascending order: what they tell of each variable, and that this tells them. -/
namespace Go.VM
set_option linter.unusedVariables false
set_option linter.unusedSimpArgs false
abbrev Pt := Int × Int

def omax : Option Int → Option Int → Option Int
  | none, y => y
  | some x, none => some x
  | some x, some y => some (max x y)
theorem omax_none (x : Option Int) : omax x none = x := by cases x <;> rfl
theorem omax_none' (x : Option Int) : omax none x = x := rfl
theorem omax_comm (x y : Option Int) : omax x y = omax y x := by
  cases x <;> cases y <;> simp [omax, Int.max_comm]
theorem omax_assoc (x y z : Option Int) : omax (omax x y) z = omax x (omax y z) := by
  cases x <;> cases y <;> cases z <;> simp [omax, Int.max_assoc]
/-- the greatest number that is added to a variable -/
def mx : List Pt → Int → Option Int
  | [], _ => none
  | x :: l, v => omax (if x.1 = v then some x.2 else none) (mx l v)
theorem mx_append (a b : List Pt) (v : Int) : mx (a ++ b) v = omax (mx a v) (mx b v) := by
  induction a with
  | nil => rfl
  | cons x a ih => simp only [List.cons_append, mx, ih, omax_assoc]
theorem mx_none {l : List Pt} {v : Int} : mx l v = none ↔ ∀ x, x ∈ l → x.1 ≠ v := by
  induction l with
  | nil => simp [mx]
  | cons x l ih =>
    unfold mx
    by_cases h : x.1 = v
    · rw [if_pos h]
      constructor
      · intro e; cases e' : mx l v <;> simp [e', omax] at e
      · intro e; exact absurd h (e x (by simp))
    · rw [if_neg h, omax_none', ih]
      constructor
      · intro e y hy
        rcases List.mem_cons.1 hy with rfl | hy
        · exact h
        · exact e y hy
      · intro e y hy; exact e y (List.mem_cons_of_mem _ hy)
def asc (l : List Pt) : Prop := l.Pairwise fun x y => x.1 < y.1
theorem mx_lt {l : List Pt} {v : Int} (h : ∀ x, x ∈ l → v < x.1) : mx l v = none := mx_none.2 fun x hx e => by have := h x hx; omega

theorem asc_ext : ∀ {a b : List Pt}, asc a → asc b → (∀ v, mx a v = mx b v) → a = b
  | [], [], _, _, _ => rfl
  | [], y :: b, _, _, h => by
    have := h y.1
    rw [eq_comm, show mx [] y.1 = none from rfl, mx_none] at this
    exact absurd rfl (this y (by simp))
  | x :: a, [], _, _, h => by
    have := h x.1
    rw [show mx [] x.1 = none from rfl, mx_none] at this
    exact absurd rfl (this x (by simp))
  | x :: a, y :: b, ha, hb, h => by
    have ha' := List.pairwise_cons.1 ha
    have hb' := List.pairwise_cons.1 hb
    have hx := mx_lt ha'.1
    have hy := mx_lt hb'.1
    have e1 : x.1 = y.1 := by
      rcases Int.lt_trichotomy x.1 y.1 with h1 | h1 | h1
      · have := h x.1
        rw [mx_lt (l := y :: b) fun z hz => ?_, mx_none] at this
        · exact absurd rfl (this x (by simp))
        · rcases List.mem_cons.1 hz with rfl | hz
          · exact h1
          · have := hb'.1 z hz; omega
      · exact h1
      · have := h y.1
        rw [eq_comm, mx_lt (l := x :: a) fun z hz => ?_, mx_none] at this
        · exact absurd rfl (this y (by simp))
        · rcases List.mem_cons.1 hz with rfl | hz
          · exact h1
          · have := ha'.1 z hz; omega
    have e2 : x.2 = y.2 := by
      have := h x.1
      unfold mx at this
      rw [hx, omax_none, if_pos rfl, ← e1, if_pos rfl, e1, hy, omax_none] at this
      exact Option.some.inj this
    have e3 : a = b := asc_ext ha'.2 hb'.2 fun v => by
      by_cases hv : x.1 = v
      · rw [← hv, hx, e1, hy]
      · have := h v
        unfold mx at this
        rwa [if_neg hv, if_neg (e1 ▸ hv), omax_none', omax_none'] at this
    rw [e3, Prod.ext e1 e2]

/-- a part put in -/
def putL (x : Pt) : List Pt → List Pt
  | [] => [x]
  | y :: r => if x.1 < y.1 then x :: y :: r else if x.1 = y.1 then (y.1, max x.2 y.2) :: r else y :: putL x r
theorem putL_mem {x z : Pt} : ∀ {l : List Pt}, z ∈ putL x l → z.1 = x.1 ∨ z ∈ l
  | [], h => by simp [putL] at h; exact .inl (by rw [h])
  | y :: r, h => by
    unfold putL at h
    split at h
    · rcases List.mem_cons.1 h with rfl | h
      · exact .inl rfl
      · exact .inr h
    · split at h
      · rename_i e
        rcases List.mem_cons.1 h with rfl | h
        · exact .inl e.symm
        · exact .inr (List.mem_cons_of_mem _ h)
      · rcases List.mem_cons.1 h with rfl | h
        · exact .inr (by simp)
        · rcases putL_mem h with e | e
          · exact .inl e
          · exact .inr (List.mem_cons_of_mem _ e)
theorem putL_asc {x : Pt} : ∀ {l : List Pt}, asc l → asc (putL x l)
  | [], _ => by simp [putL, asc]
  | y :: r, h => by
    have h' := List.pairwise_cons.1 h
    unfold putL
    split
    · rename_i e
      exact List.pairwise_cons.2 ⟨fun z hz => by
        rcases List.mem_cons.1 hz with rfl | hz
        · exact e
        · have := h'.1 z hz; omega, h⟩
    · split
      · exact List.pairwise_cons.2 ⟨fun z hz => h'.1 z hz, h'.2⟩
      · refine List.pairwise_cons.2 ⟨fun z hz => ?_, putL_asc h'.2⟩
        rcases putL_mem hz with e | e
        · omega
        · exact h'.1 z e
theorem mx_putL {x : Pt} {v : Int} : ∀ {l : List Pt}, asc l → mx (putL x l) v = omax (mx l v) (if x.1 = v then some x.2 else none)
  | [], _ => by simp only [putL, mx, omax_none, omax_none']
  | y :: r, h => by
    have h' := List.pairwise_cons.1 h
    unfold putL
    split
    · rw [mx, omax_comm]
    · split
      · rename_i e1 e2
        simp only [mx]
        by_cases hv : x.1 = v
        · rw [if_pos hv, if_pos (by omega), if_pos (by omega)]
          have : mx r v = none := mx_lt fun z hz => by have := h'.1 z hz; omega
          rw [this]
          simp [omax]; omega
        · rw [if_neg hv, if_neg (by omega), if_neg (by omega), omax_none, omax_none']
      · simp only [mx]
        rw [mx_putL h'.2, omax_assoc]
/-- parts put in one after the other -/
def putsL (l : List Pt) : List Pt → List Pt
  | [] => l
  | x :: r => putsL (putL x l) r
theorem putsL_snoc (l r : List Pt) (x : Pt) : putsL l (r ++ [x]) = putL x (putsL l r) := by
  induction r generalizing l with
  | nil => rfl
  | cons y r ih => exact ih _
theorem putsL_asc {r : List Pt} : ∀ {l : List Pt}, asc l → asc (putsL l r) := by
  induction r with
  | nil => exact fun h => h
  | cons x r ih => exact fun h => ih (putL_asc h)
theorem mx_putsL {r : List Pt} {v : Int} : ∀ {l : List Pt}, asc l → mx (putsL l r) v = omax (mx l v) (mx r v) := by
  induction r with
  | nil => intro l h; simp [putsL, mx, omax_none]
  | cons x r ih => intro l h; rw [putsL, ih (putL_asc h), mx_putL h, omax_assoc, mx]
theorem putsL_eq {q r : List Pt} (hq : asc q) (h : ∀ v, mx q v = mx r v) : putsL [] r = q :=
  asc_ext (putsL_asc (by simp [asc])) hq fun v => by rw [mx_putsL (by simp [asc]), h v]; rfl

/-- two ascending lists merged -/
def joinL : List Pt → List Pt → List Pt
  | [], b => b
  | x :: a, [] => x :: a
  | x :: a, y :: b => if x.1 < y.1 then x :: joinL a (y :: b) else if y.1 < x.1 then y :: joinL (x :: a) b else (x.1, max x.2 y.2) :: joinL a b
termination_by a b => a.length + b.length
theorem joinL_nil (a : List Pt) : joinL a [] = a := by cases a <;> simp [joinL]
theorem joinL_nil' (a : List Pt) : joinL [] a = a := by simp [joinL]
theorem joinL_cons (x y : Pt) (a b : List Pt) : joinL (x :: a) (y :: b) = if x.1 < y.1 then x :: joinL a (y :: b) else if y.1 < x.1 then y :: joinL (x :: a) b else (x.1, max x.2 y.2) :: joinL a b := by
  rw [joinL]
theorem joinL_mem : ∀ {a b : List Pt} {z : Pt}, z ∈ joinL a b → (∃ x, x ∈ a ∧ x.1 = z.1) ∨ ∃ x, x ∈ b ∧ x.1 = z.1
  | [], b, z, h => by rw [joinL_nil'] at h; exact .inr ⟨z, h, rfl⟩
  | x :: a, [], z, h => by rw [joinL_nil] at h; exact .inl ⟨z, h, rfl⟩
  | x :: a, y :: b, z, h => by
    rw [joinL_cons] at h
    split at h
    · rcases List.mem_cons.1 h with rfl | h
      · exact .inl ⟨_, by simp, rfl⟩
      · rcases joinL_mem h with ⟨w, hw, e⟩ | ⟨w, hw, e⟩
        · exact .inl ⟨w, List.mem_cons_of_mem _ hw, e⟩
        · exact .inr ⟨w, hw, e⟩
    · split at h
      · rcases List.mem_cons.1 h with rfl | h
        · exact .inr ⟨_, by simp, rfl⟩
        · rcases joinL_mem h with ⟨w, hw, e⟩ | ⟨w, hw, e⟩
          · exact .inl ⟨w, hw, e⟩
          · exact .inr ⟨w, List.mem_cons_of_mem _ hw, e⟩
      · rcases List.mem_cons.1 h with rfl | h
        · exact .inl ⟨x, by simp, rfl⟩
        · rcases joinL_mem h with ⟨w, hw, e⟩ | ⟨w, hw, e⟩
          · exact .inl ⟨w, List.mem_cons_of_mem _ hw, e⟩
          · exact .inr ⟨w, List.mem_cons_of_mem _ hw, e⟩
termination_by a b => a.length + b.length
theorem joinL_spec : ∀ {a b : List Pt}, asc a → asc b → asc (joinL a b) ∧ ∀ v, mx (joinL a b) v = omax (mx a v) (mx b v)
  | [], b, _, hb => by rw [joinL_nil']; exact ⟨hb, fun v => rfl⟩
  | x :: a, [], ha, _ => by rw [joinL_nil]; exact ⟨ha, fun v => by rw [show mx [] v = none from rfl, omax_none]⟩
  | x :: a, y :: b, ha, hb => by
    have ha' := List.pairwise_cons.1 ha
    have hb' := List.pairwise_cons.1 hb
    rw [joinL_cons]
    split
    · rename_i e
      obtain ⟨h1, h2⟩ := joinL_spec ha'.2 hb
      refine ⟨List.pairwise_cons.2 ⟨fun z hz => ?_, h1⟩, fun v => ?_⟩
      · rcases joinL_mem hz with ⟨w, hw, e'⟩ | ⟨w, hw, e'⟩
        · have := ha'.1 w hw; omega
        · rcases List.mem_cons.1 hw with rfl | hw
          · omega
          · have := hb'.1 w hw; omega
      · rw [mx, h2, ← omax_assoc]; rfl
    · split
      · rename_i e1 e
        obtain ⟨h1, h2⟩ := joinL_spec ha hb'.2
        refine ⟨List.pairwise_cons.2 ⟨fun z hz => ?_, h1⟩, fun v => ?_⟩
        · rcases joinL_mem hz with ⟨w, hw, e'⟩ | ⟨w, hw, e'⟩
          · rcases List.mem_cons.1 hw with rfl | hw
            · omega
            · have := ha'.1 w hw; omega
          · have := hb'.1 w hw; omega
        · rw [mx, h2, show mx (y :: b) v = omax (if y.1 = v then some y.2 else none) (mx b v) from rfl, ← omax_assoc, ← omax_assoc, omax_comm (mx (x :: a) v)]
      · rename_i e1 e2
        have e : x.1 = y.1 := by omega
        obtain ⟨h1, h2⟩ := joinL_spec ha'.2 hb'.2
        refine ⟨List.pairwise_cons.2 ⟨fun z hz => ?_, h1⟩, fun v => ?_⟩
        · show x.1 < z.1
          rcases joinL_mem hz with ⟨w, hw, e'⟩ | ⟨w, hw, e'⟩
          · have := ha'.1 w hw; omega
          · have := hb'.1 w hw; omega
        · rw [mx, h2, mx, mx]
          show omax (if x.1 = v then some (max x.2 y.2) else none) _ = _
          rw [← e]
          by_cases hv : x.1 = v
          · rw [if_pos hv, if_pos hv, if_pos hv, mx_lt (l := a) fun z hz => (by have := ha'.1 z hz; omega), mx_lt (l := b) fun z hz => (by have := hb'.1 z hz; omega)]
            rfl
          · rw [if_neg hv, if_neg hv, if_neg hv]; rfl
termination_by a b => a.length + b.length

/-- the greatest number of a list of parts -/
def mostL : List Pt → Int
  | [] => -1
  | x :: l => max x.2 (mostL l)
/-- the canonical form; none: a limit is exceeded -/
def canonL (c : Int) (q : List Pt) : Option (Int × List Pt) :=
  let c' := if c ≤ mostL q then 0 else c
  if c' > 1000 ∨ mostL q > 1000 ∨ q.length > 8 then none else some (c', q)
theorem mostL_ge (l : List Pt) : -1 ≤ mostL l := by
  induction l with
  | nil => exact Int.le_refl _
  | cons x l ih => unfold mostL; omega
theorem mostL_le {l : List Pt} {b : Int} (hb : -1 ≤ b) : mostL l ≤ b ↔ ∀ x, x ∈ l → x.2 ≤ b := by
  induction l with
  | nil => simp [mostL, hb]
  | cons x l ih => simp only [mostL, List.mem_cons, forall_eq_or_imp, ← ih]; omega
theorem mostL_append (a b : List Pt) : mostL (a ++ b) = max (mostL a) (mostL b) := by
  induction a with
  | nil => have := mostL_ge b; simp [mostL]; omega
  | cons x a ih => simp only [List.cons_append, mostL, ih]; omega
end Go.VM

/- A list of parts told by functions; what is sorted by exchanging neighbours. -/
namespace Go.VM
set_option linter.unusedVariables false
set_option linter.unusedSimpArgs false

/-- the first n parts -/
def lst (V P : Nat → Int) : Nat → List Pt
  | 0 => []
  | n + 1 => lst V P n ++ [(V n, P n)]
theorem lst_length (V P : Nat → Int) : ∀ n, (lst V P n).length = n
  | 0 => rfl
  | n + 1 => by simp [lst, lst_length V P n]
theorem lst_mem {V P : Nat → Int} {x : Pt} : ∀ {n}, x ∈ lst V P n ↔ ∃ i, i < n ∧ x = (V i, P i)
  | 0 => by simp [lst]
  | n + 1 => by
    simp only [lst, List.mem_append, List.mem_singleton, lst_mem (n := n)]
    constructor
    · rintro (⟨i, h, e⟩ | e)
      · exact ⟨i, by omega, e⟩
      · exact ⟨n, by omega, e⟩
    · rintro ⟨i, h, e⟩
      by_cases h' : i = n
      · subst h'; exact .inr e
      · exact .inl ⟨i, by omega, e⟩
theorem lst_congr {V P V' P' : Nat → Int} : ∀ {n}, (∀ i, i < n → V' i = V i ∧ P' i = P i) → lst V' P' n = lst V P n
  | 0, _ => rfl
  | n + 1, h => by
    unfold lst
    rw [lst_congr (n := n) fun i hi => h i (by omega), (h n (by omega)).1, (h n (by omega)).2]
theorem lst_add (V P : Nat → Int) (n : Nat) : ∀ m, lst V P (n + m) = lst V P n ++ lst (fun i => V (n + i)) (fun i => P (n + i)) m
  | 0 => by simp [lst]
  | m + 1 => by
    rw [show n + (m + 1) = n + m + 1 by omega]
    simp only [lst, lst_add V P n m, List.append_assoc]
theorem lst_split (V P : Nat → Int) {k n : Nat} (h : k ≤ n) : lst V P n = lst V P k ++ lst (fun i => V (k + i)) (fun i => P (k + i)) (n - k) := by
  rw [← lst_add, show k + (n - k) = n by omega]
theorem lst_cons (V P : Nat → Int) (n : Nat) : lst V P (n + 1) = (V 0, P 0) :: lst (fun i => V (i + 1)) (fun i => P (i + 1)) n := by
  rw [show n + 1 = 1 + n by omega, lst_add]
  simp only [lst, List.nil_append, List.singleton_append]
  congr 1
  exact lst_congr fun i _ => ⟨by rw [show i + 1 = 1 + i by omega], by rw [show i + 1 = 1 + i by omega]⟩
theorem lst_get (V P : Nat → Int) : ∀ {n i : Nat}, i < n → (lst V P n)[i]? = some (V i, P i)
  | n + 1, i, h => by
    unfold lst
    by_cases e : i = n
    · subst e
      rw [List.getElem?_append_right (by rw [lst_length]; exact Nat.le_refl _), lst_length]; simp
    · rw [List.getElem?_append_left (by rw [lst_length]; omega)]
      exact lst_get V P (by omega)
theorem mostF_lst (V P : Nat → Int) : ∀ n, mostL (lst V P n) = mostF P n
  | 0 => rfl
  | n + 1 => by have := mostF_ge P n; rw [lst, mostL_append, mostF_lst V P n, mostF]; simp [mostL]; omega

theorem mx_perm {a b : List Pt} (h : a.Perm b) (v : Int) : mx a v = mx b v := by
  induction h with
  | nil => rfl
  | cons x _ ih => simp only [mx, ih]
  | swap x y l => simp only [mx, ← omax_assoc]; rw [omax_comm (if y.1 = v then _ else _)]
  | trans _ _ h1 h2 => rw [h1, h2]

/-- the places j - 1 and j exchanged -/
def swp (f : Nat → Int) (j : Nat) : Nat → Int := fun i => if i = j then f (j - 1) else if i = j - 1 then f j else f i
theorem lst_swp (V P : Nat → Int) {j : Nat} (h0 : 0 < j) : ∀ {n : Nat}, j < n → (lst (swp V j) (swp P j) n).Perm (lst V P n)
  | n + 1, h => by
    by_cases e : j = n
    · obtain ⟨k, rfl⟩ : ∃ k, n = k + 1 := ⟨n - 1, by omega⟩
      subst e
      simp only [lst]
      have e1 : lst (swp V (k + 1)) (swp P (k + 1)) k = lst V P k := lst_congr fun i hi => by unfold swp; rw [if_neg (by omega), if_neg (by omega), if_neg (by omega), if_neg (by omega)]; exact ⟨rfl, rfl⟩
      have e2 : ∀ f : Nat → Int, swp f (k + 1) (k + 1) = f k := fun f => by unfold swp; rw [if_pos rfl]; rfl
      have e3 : ∀ f : Nat → Int, swp f (k + 1) k = f (k + 1) := fun f => by unfold swp; rw [if_neg (by omega), if_pos (by omega)]
      rw [e1, e2, e2, e3, e3, List.append_assoc, List.append_assoc]
      exact List.Perm.append_left _ (List.Perm.swap _ _ _)
    · have e2 : ∀ f : Nat → Int, swp f j n = f n := fun f => by unfold swp; rw [if_neg (by omega), if_neg (by omega)]
      simp only [lst, e2]
      exact (lst_swp V P h0 (by omega)).append_right _

/-- the first i are in order -/
def upTo (V : Nat → Int) (i : Nat) : Prop := ∀ k l, k < l → l < i → V k ≤ V l
/-- the first i + 1 are in order but for the one at j, which is less than all behind it -/
def upBut (V : Nat → Int) (i j : Nat) : Prop := j ≤ i ∧ (∀ k l, k < l → l ≤ i → k ≠ j → l ≠ j → V k ≤ V l) ∧ ∀ l, j < l → l ≤ i → V j < V l
theorem upBut_start {V : Nat → Int} {i : Nat} (h : upTo V i) : upBut V i i := ⟨Nat.le_refl _, fun k l h1 h2 h3 h4 => h k l h1 (by omega), fun l h1 h2 => by omega⟩
theorem upBut_step {V : Nat → Int} {i j : Nat} (h : upBut V i j) (hj : 0 < j) (hlt : V j < V (j - 1)) : upBut (swp V j) i (j - 1) := by
  obtain ⟨h1, h2, h3⟩ := h
  refine ⟨by omega, fun k l a b c d => ?_, fun l a b => ?_⟩
  · unfold swp
    by_cases e1 : k = j
    · rw [if_pos e1, if_neg (by omega), if_neg (by omega)]
      exact h2 _ _ (by omega) b (by omega) (by omega)
    · rw [if_neg e1, if_neg (by omega)]
      by_cases e2 : l = j
      · rw [if_pos e2]; exact h2 _ _ (by omega) (by omega) (by omega) (by omega)
      · rw [if_neg e2, if_neg (by omega)]; exact h2 _ _ a b e1 e2
  · unfold swp
    rw [if_neg (by omega), if_pos rfl]
    by_cases e2 : l = j
    · rw [if_pos e2]; exact hlt
    · rw [if_neg e2, if_neg (by omega)]; exact h3 l (by omega) b
theorem upBut_end {V : Nat → Int} {i j : Nat} (h : upBut V i j) (hj : j = 0 ∨ V (j - 1) ≤ V j) : upTo V (i + 1) := by
  obtain ⟨h1, h2, h3⟩ := h
  intro k l a b
  by_cases e1 : l = j
  · rcases hj with hj | hj
    · omega
    · by_cases e2 : k = j - 1
      · rw [e1, e2]; exact hj
      · have := h2 k (j - 1) (by omega) (by omega) (by omega) (by omega)
        rw [e1]; omega
  · by_cases e2 : k = j
    · have := h3 l (by omega) (by omega)
      rw [e2]; omega
    · exact h2 k l a (by omega) e2 e1
def dist (V : Nat → Int) (n : Nat) : Prop := ∀ i k, k < i → i < n → V k ≠ V i
theorem dist_nodup {V P : Nat → Int} : ∀ {n : Nat}, dist V n ↔ ((lst V P n).map (·.1)).Nodup
  | 0 => by simp [lst, dist]
  | n + 1 => by
    simp only [lst, List.map_append, List.map_cons, List.map_nil, List.nodup_append, List.nodup_cons, List.not_mem_nil, not_false_eq_true, List.nodup_nil, and_self, List.mem_singleton, forall_eq, true_and]
    rw [← dist_nodup (n := n)]
    constructor
    · intro h
      refine ⟨fun i k a b => h i k a (by omega), fun x hx => ?_⟩
      obtain ⟨y, hy, rfl⟩ := List.mem_map.1 hx
      obtain ⟨k, hk, rfl⟩ := lst_mem.1 hy
      exact h n k hk (by omega)
    · rintro ⟨h1, h2⟩ i k a b
      by_cases e : i = n
      · subst e
        exact h2 _ (List.mem_map.2 ⟨_, lst_mem.2 ⟨k, a, rfl⟩, rfl⟩)
      · exact h1 i k a (by omega)
theorem dist_perm {V P V' P' : Nat → Int} {n : Nat} (h : (lst V' P' n).Perm (lst V P n)) (hd : dist V n) : dist V' n :=
  (dist_nodup (P := P')).2 ((h.map _).nodup_iff.2 ((dist_nodup (P := P)).1 hd))
theorem lst_asc {V P : Nat → Int} : ∀ {n : Nat}, (∀ k l, k < l → l < n → V k < V l) → asc (lst V P n)
  | 0, _ => by simp [lst, asc]
  | n + 1, h => by
    refine List.pairwise_append.2 ⟨lst_asc fun k l a b => h k l a (by omega), by simp, fun x hx y hy => ?_⟩
    obtain ⟨k, hk, rfl⟩ := lst_mem.1 hx
    obtain rfl := List.mem_singleton.1 hy
    exact h k n hk (by omega)
/-- sorted and distinct: ascending -/
theorem sorted_asc {V P V' P' : Nat → Int} {n : Nat} (h : (lst V' P' n).Perm (lst V P n)) (hd : dist V n) (hu : upTo V' n) : asc (lst V' P' n) :=
  lst_asc fun k l a b => by
    have h1 := hu k l a b
    have h2 := dist_perm h hd l k a b
    omega
theorem asc_dist {V P : Nat → Int} {n : Nat} (h : asc (lst V P n)) : ∀ k l, k < l → l < n → V k < V l := by
  intro k l a b
  have := List.pairwise_iff_getElem.1 h k l (by rw [lst_length]; omega) (by rw [lst_length]; omega) a
  have e1 := lst_get V P (n := n) (i := k) (by omega)
  have e2 := lst_get V P (n := n) (i := l) b
  rw [List.getElem?_eq_getElem (by rw [lst_length]; omega)] at e1 e2
  rw [Option.some.inj e1, Option.some.inj e2] at this
  exact this
end Go.VM

/- How values at 0 and 1001 tell the order. -/
namespace Go.VM
set_option linter.unusedVariables false
set_option linter.unusedSimpArgs false

/-- the assignment of one choice: variable U j has the number w j -/
def pickF (U w : Nat → Int) : Nat → Int → Int
  | 0, _ => 0
  | j + 1, v => if v = U j then w j else pickF U w j v
theorem pickF_at {U w : Nat → Int} : ∀ {m : Nat}, dist U m → ∀ j, j < m → pickF U w m (U j) = w j
  | m + 1, hd, j, hj => by
    unfold pickF
    by_cases e : j = m
    · subst e; rw [if_pos rfl]
    · rw [if_neg fun h => hd m j (by omega) (by omega) h]
      exact pickF_at (fun i k a b => hd i k a (by omega)) j (by omega)
theorem pickF_ge {U w : Nat → Int} (h : ∀ j, 0 ≤ w j) : ∀ (m : Nat) (v : Int), 0 ≤ pickF U w m v
  | 0, _ => Int.le_refl _
  | m + 1, v => by unfold pickF; split; exact h m; exact pickF_ge h m v
theorem pickF_le {U w : Nat → Int} {b : Int} (hb : 0 ≤ b) (h : ∀ j, w j ≤ b) : ∀ (m : Nat) (v : Int), pickF U w m v ≤ b
  | 0, _ => hb
  | m + 1, v => by unfold pickF; split; exact h m; exact pickF_le hb h m v
theorem evV_congr {V P : Nat → Int} {x y : Int → Int} {c : Int} : ∀ {n : Nat}, (∀ i, i < n → x (V i) = y (V i)) → evV V P x c n = evV V P y c n
  | 0, _ => rfl
  | n + 1, h => by unfold evV; rw [evV_congr (n := n) fun i hi => h i (by omega), h n (by omega)]
/-- the numbers of choice p -/
def wP (p : Nat) (j : Nat) : Int := ((p / 2 ^ j % 2 : Nat) : Int) * 1001
theorem wP_range (p j : Nat) : 0 ≤ wP p j ∧ wP p j ≤ 1001 := by unfold wP; omega
theorem wP_zero (j : Nat) : wP 0 j = 0 := by unfold wP; simp
theorem wP_one : ∀ j, j < 5 → ∀ k, k < 5 → wP (2 ^ j) k = if k = j then 1001 else 0 := by decide

theorem tells {c c' : Int} {n n' : Nat} {V P V' P' U : Nat → Int} {m : Nat} (ha : ValidP c n V P) (hb : ValidP c' n' V' P') (hm : m ≤ 5) (hd : dist U m)
    (h1 : ∀ i, i < n → ∃ j, j < m ∧ U j = V i) (h2 : ∀ i, i < n' → ∃ j, j < m ∧ U j = V' i) :
    (∀ p, p < 2 ^ m → evV V P (pickF U (wP p) m) c n ≤ evV V' P' (pickF U (wP p) m) c' n') ↔ LeqP c n V P c' n' V' P' := by
  refine ⟨fun h => ?_, fun h p _ => leq_ev _ (fun v => pickF_ge (fun j => (wP_range p j).1) m v) hb.1 h⟩
  refine leq_of_ev ha hb ?_ fun i hi => ?_
  · have := h 0 (Nat.pow_pos (by decide))
    rwa [evV_congr (V := V) (y := fun _ => 0) fun i hi => ?_, evV_congr (V := V') (y := fun _ => 0) fun i hi => ?_] at this
    · obtain ⟨j, hj, e⟩ := h2 i hi
      rw [← e, pickF_at hd j hj, wP_zero]
    · obtain ⟨j, hj, e⟩ := h1 i hi
      rw [← e, pickF_at hd j hj, wP_zero]
  · obtain ⟨j, hj, e⟩ := h1 i hi
    have key : ∀ k, k < m → wP (2 ^ j) k = if U k = V i then 1001 else 0 := fun k hk => by
      rw [wP_one j (by omega) k (by omega)]
      by_cases ek : k = j
      · subst ek; rw [if_pos rfl, if_pos e]
      · rw [if_neg ek, if_neg]
        intro e2
        rcases Nat.lt_or_gt_of_ne ek with hl | hl
        · exact hd j k hl hj (e2.trans e.symm)
        · exact hd k j hl hk (e.trans e2.symm)
    have := h (2 ^ j) (Nat.pow_lt_pow_right (by decide) hj)
    rwa [evV_congr (V := V) (y := fun v => if v = V i then 1001 else 0) fun k hk => ?_, evV_congr (V := V') (y := fun v => if v = V i then 1001 else 0) fun k hk => ?_] at this
    · obtain ⟨l, hl, el⟩ := h2 k hk
      rw [← el, pickF_at hd l hl, key l hl]
    · obtain ⟨l, hl, el⟩ := h1 k hk
      rw [← el, pickF_at hd l hl, key l hl]
end Go.VM

/- strings.Builder: what its methods do to the object that stands for it. -/
set_option linter.unusedSimpArgs false
set_option linter.unusedVariables false
set_option linter.unusedSectionVars false
namespace Go.VM
open Go Go.Proofs Go.Shelf

/-- all blocks but b and the row of v stand as they stood -/
structure Near (w w' : World) (b : Nat) (v : Value) : Prop where
  os : w'.os = w.os
  tape : w'.tape = w.tape
  output : w'.output = w.output
  size : w.heap.size ≤ w'.heap.size
  block : ∀ k, k < w.heap.size → k ≠ b → (∀ n q, v ≠ .slice (some ⟨k, 0, none⟩) n q) → w'.heap[k]? = w.heap[k]?

theorem Near.trans {w w1 w2 : World} {b : Nat} {v : Value} (h : Near w w1 b v) (k : Near w1 w2 b v) : Near w w2 b v :=
  ⟨k.os.trans h.os, k.tape.trans h.tape, k.output.trans h.output, Nat.le_trans h.size k.size, fun i hi hb hv => (k.block i (Nat.lt_of_lt_of_le hi h.size) hb hv).trans (h.block i hi hb hv)⟩
theorem Near.refl (w : World) (b : Nat) (v : Value) : Near w w b v := ⟨rfl, rfl, rfl, Nat.le_refl _, fun _ _ _ _ => rfl⟩
theorem Near.drew {w w' : World} {b : Nat} {v : Value} (h : Near w w' b v) : Near w w'.drew b v := ⟨h.os, h.tape, h.output, h.size, h.block⟩
theorem Near.alloc {w w' : World} {b : Nat} {v : Value} (h : Near w w' b v) (o : Obj) : Near w (w'.alloc o) b v :=
  h.trans ⟨rfl, rfl, rfl, by simp, fun k hk _ _ => Go.RowKit.Below.heap_alloc _ _ _ hk⟩
theorem Near.setCell {w w' : World} {b : Nat} {v : Value} (h : Near w w' b v) (i : Nat) (u : Value) : Near w (w'.setCell ⟨b, i, none⟩ u) b v :=
  h.trans ⟨rfl, rfl, rfl, by simp [World.setCell], fun k _ hk _ => Go.RowKit.Below.heap_setCell _ _ _ _ hk⟩

section
variable [Ops] [Glb] [Lim]
theorem bld_done {B : Gd} {ι : Nat → Option Nat} {I : Nat → Nat → Prop} {w w' : World} {c c' : ByteArray} {b : Nat} {p v p' v' : Value} (hrel : Rel B ι I w [.bld c]) (hi : ι 0 = some b)
    (hb : w.heap[b]? = some (.cells #[p, v] Glb.bt (0, 0))) (hn : Near w w' b v) (hb' : w'.heap[b]? = some (.cells #[p', v'] Glb.bt (0, 0)))
    (hp' : p' = .pointer none ∨ p' = .pointer (some ⟨b, 0, none⟩)) (hbuf' : BufOk B I w' b c' v') : Rel B ι I w' [.bld c'] ∧ Keep B w I ι [.bld c] w' I ι [.bld c'] := by
  obtain ⟨b0, p0, v0, q1, q2, q3, q4, q5, q6⟩ := hrel.obj 0 _ rfl
  obtain rfl : b = b0 := by rw [hi] at q1; exact Option.some.inj q1
  obtain ⟨rfl, rfl⟩ : p = p0 ∧ v = v0 := by
    rw [hb] at q3
    simpa using q3
  have hIb : ∀ a k, I a k → a ≠ b := fun a k h e => q5 k (e ▸ h)
  have hIg : ∀ a k, I a k → ∀ n q, v ≠ .slice (some ⟨a, 0, none⟩) n q := fun a k h n q e => by
    subst e
    rcases q6 with ⟨h1, _⟩ | ⟨g, cap, cur, fz, h1, _, _, h4, _⟩
    · cases h1
    · cases h1; exact h4 k h
  have hBb : ∀ a, B a → a ≠ b := fun a h e => q2 (e ▸ h)
  have hBg : ∀ a, B a → ∀ n q, v ≠ .slice (some ⟨a, 0, none⟩) n q := fun a h n q e => by
    subst e
    rcases q6 with ⟨h1, _⟩ | ⟨g, cap, cur, fz, h1, _, h3, _⟩
    · cases h1
    · cases h1; exact h3 h
  have hsame : Same I w w' := fun a k h => by
    unfold World.cell?
    rw [hn.block a (hrel.imm a k h) (hIb a k h) (hIg a k h)]
  have g : Goes w w' I I ι ι [.bld c] [.bld c'] := by
    refine ⟨hsame, fun _ _ h => h, Nat.le_refl _, fun o off len sz v ho _ n sz' get fz h _ => ?_, fun o x ho h hx => ?_, fun o n sz get fz ho h => ?_, fun o s p ho h => ?_⟩
    all_goals
      obtain rfl : o = 0 := by simpa using ho
      simp at h
    subst h
    exact ⟨⟨_, rfl, trivial⟩, rfl⟩
  refine ⟨⟨fun k hk => Nat.lt_of_lt_of_le (hrel.base k hk) hn.size, fun a k h => Nat.lt_of_lt_of_le (hrel.imm a k h) hn.size, hrel.low, g.glob hrel.glob, fun o x hx => ?_, fun o o' x x' a hx hx' _ _ _ _ => ?_⟩,
    ⟨⟨hn.os, hn.tape, hn.output, hn.size, fun k hk hB => hn.block k hk (hBb k hB) (hBg k hB)⟩, hsame, fun _ _ h => h, Nat.le_refl _, fun v x h => h.goes g⟩⟩
  · have ho := (List.getElem?_eq_some_iff.1 hx).1
    obtain rfl : o = 0 := by simpa using ho
    simp at hx
    subst hx
    exact ⟨b, p', v', hi, q2, hb', hp', q5, hbuf'⟩
  · have ho := (List.getElem?_eq_some_iff.1 hx).1
    have ho' := (List.getElem?_eq_some_iff.1 hx').1
    simp at ho ho'
    omega
end

variable {P : Program} {ρ : Ren}

theorem wpList_append_run {ops : Array Oper} {rest : List Oper} {o : Oper} {a : Act} {w : World} {Q : Exit → Act → World → Prop} (hgd : o.guard = none) (sl x : Operand) (t u : TypeId)
    (ho : o.op = .call { callee := .builtin .append, args := #[sl, x], argTypes := #[t, u] }) {v y v' : Value} {w' : World} (hs : a.eval sl = v) (hx : a.eval x = y) (hr : (Builtin.append_ #[t, u] o.type #[v, y]).run P w = .ok v' w')
    (h : wpList P ops Q rest (a.put o.dst v') w') : wpList P ops Q (o :: rest) a w := by
  refine wpList_plain hgd fun K hK => ?_
  unfold Oper.wp execOp
  simp only [ho, resolve, invoke, builtin, Sem.run_bind, Sem.run_pure, Result.andThen_ok, List.map_toArray, List.map_cons, List.map_nil, hs, hx, hr]
  exact hK _ _ h

theorem wpList_append_ex {ops : Array Oper} {rest : List Oper} {o : Oper} {a : Act} {w : World} {Q : Exit → Act → World → Prop} (hgd : o.guard = none) (sl x : Operand) (t u : TypeId)
    (ho : o.op = .call { callee := .builtin .append, args := #[sl, x], argTypes := #[t, u] }) {v y : Value} (hs : a.eval sl = v) (hx : a.eval x = y) {R : Value → World → Prop} (hr : ∃ v' w', (Builtin.append_ #[t, u] o.type #[v, y]).run P w = .ok v' w' ∧ R v' w')
    (h : ∀ v' w', R v' w' → wpList P ops Q rest (a.put o.dst v') w') : wpList P ops Q (o :: rest) a w := by
  obtain ⟨v', w', h1, h2⟩ := hr
  exact wpList_append_run hgd sl x t u ho hs hx h1 (h v' w' h2)

theorem calls_copyCheck (L : Lays.n240 P ρ) (X : Builder.X72 P ρ) {b : Nat} {p v : Value} {w : World} (hb : w.heap[b]? = some (.cells #[p, v] (ρ.t 72) (0, 0))) (hp : p = .pointer none ∨ p = .pointer (some ⟨b, 0, none⟩)) :
    Calls P (ρ.f 240) #[.pointer (some ⟨b, 0, none⟩)] w fun e w' => e = .returned (.tuple #[]) ∧ w'.heap[b]? = some (.cells #[.pointer (some ⟨b, 0, none⟩), v] (ρ.t 72) (0, 0)) ∧ Near w w' b v ∧ w'.heap.size = w.heap.size ∧ (∀ k, k ≠ b → w'.heap[k]? = w.heap[k]?) := by
  have c0 : w.cell? ⟨b, 0, none⟩ = some p := by rw [Lib.cell_of_heap hb]; rfl
  rcases hp with rfl | rfl
  · refine (Any.Builder_copyCheck_fresh L X b w c0 (by simp [World.shape?, hb]) (Lib.frozen_of_heap hb 0)).mono ?_
    rintro e w' ⟨rfl, rfl⟩
    refine ⟨rfl, ?_, (Near.refl w b v).setCell 0 _, by simp [World.setCell], fun k hk => Go.RowKit.Below.heap_setCell _ _ _ _ hk⟩
    simp [World.setCell, Array.getElem?_modify, hb]
  · refine (Any.Builder_copyCheck_used L X b w c0).mono ?_
    rintro e w' ⟨rfl, rfl⟩
    exact ⟨rfl, hb, .refl _ _ _, rfl, fun _ _ => rfl⟩

theorem getElem?_of_getD {vs : Array Value} {k : Nat} {x : Value} (hk : k < vs.size) (h : vs.getD k undef = x) : vs[k]? = some x := by
  rw [Array.getD_eq_getD_getElem?] at h
  rw [Array.getElem?_eq_getElem hk] at h ⊢
  exact congrArg some h
theorem getD_of_getElem? {vs : Array Value} {k : Nat} {x : Value} (h : vs[k]? = some x) : vs.getD k undef = x := by
  rw [Array.getD_eq_getD_getElem?, h]; rfl
theorem cat_get {c s : ByteArray} {k : Nat} {x : UInt8} (h : (c ++ s).data.toList[k]? = some x) : (k < c.size ∧ c.data.toList[k]? = some x) ∨ (c.size ≤ k ∧ s.data.toList[k - c.size]? = some x) := by
  have e : (c ++ s).data.toList = c.data.toList ++ s.data.toList := by simp [ByteArray.data_append]
  rw [e, List.getElem?_append] at h
  have e2 : c.data.toList.length = c.size := Array.length_toList
  rw [e2] at h
  split at h
  · exact .inl ⟨‹_›, h⟩
  · exact .inr ⟨by omega, h⟩

section
variable [Ops] [Glb] [Lim]
set_option maxHeartbeats 1000000 in
/-- what is appended to a builder's slice of bytes -/
theorem append_buf {t t2 ty e : TypeId} {i : TypeInfo} (ht : P.underlying t = some (.slice e)) (ht2 : P.underlying t2 = some .string ∨ ∃ e', P.underlying t2 = some (.slice e')) (hi : P.info? e = some i) (hz : i.zero = some (.int .u8 0))
    (hs1 : i.size = 1) (hby : i.bytes = 1) (he : e = Glb.u8) {B : Gd} {I : Nat → Nat → Prop} {w : World} {b : Nat} {c : ByteArray} {v : Value} (hbuf : BufOk B I w b c v) (hB : ∀ k, B k → k < w.heap.size) (hI : ∀ k q, I k q → k < w.heap.size)
    (hbl : b < w.heap.size) (s : ByteArray) {y : Value} {news : Array Value} (hx : Src P w y s.size 1 news) (hnews : ∀ (k : Nat) (x : UInt8), s.data.toList[k]? = some x → news[k]? = some (.int .u8 x.toNat)) (h1 : ∀ x ∈ news.toList, x.oneCell' = true) (hlim : c.size + s.size ≤ 140737488355328) :
    ∃ v' w', (Builtin.append_ #[t, t2] ty #[v, y]).run P w = .ok v' w' ∧ BufOk B I w' b (c ++ s) v' ∧ Near w w' b v ∧ w'.heap[b]? = w.heap[b]? := by
  subst he
  have hlen : ∀ x : ByteArray, x.data.toList.length = x.size := fun x => Array.length_toList
  have hcs : (c ++ s).size = c.size + s.size := ByteArray.size_append
  have hnsz : news.size = s.size := by simpa using hx.size
  have hx : Src P w y s.size i.size news := by rw [hs1]; exact hx
  have hzz : (Value.int .u8 0).cells.size = 1 := rfl
  -- a row of its own, in a new block
  have grow : ∀ (base : Option Addr) (sCap : Nat) (olds : Array Value), v = .slice base c.size sCap → sCap < c.size + s.size → Src P w (.slice base c.size sCap) c.size i.size olds →
      (∀ (k : Nat) (x : UInt8), c.data.toList[k]? = some x → olds[k]? = some (.int .u8 x.toNat)) → s.size ≠ 0 →
      ∃ v' w', (Builtin.append_ #[t, t2] ty #[v, y]).run P w = .ok v' w' ∧ BufOk B I w' b (c ++ s) v' ∧ Near w w' b v ∧ w'.heap[b]? = w.heap[b]? := by
    intro base sCap olds hv hcap hsrc holds hs0
    obtain ⟨cp, hc1, hrun⟩ := run_append_grows (P := P) (w := w) (ty := ty) ht ht2 hi hz hx hsrc hcap (by omega) (by rw [hby]; omega)
    have hosz : olds.size = c.size := by have := hsrc.size; rw [hs1] at this; simpa using this
    subst hv
    have hnew := heap_alloc_new w.drew (.cells (olds ++ news ++ Builtin.zeroCells (Value.int .u8 0).cells (cp - (c.size + s.size))) Glb.u8)
    have hold : ∀ k, k < w.heap.size → (w.drew.alloc (.cells (olds ++ news ++ Builtin.zeroCells (Value.int .u8 0).cells (cp - (c.size + s.size))) Glb.u8)).heap[k]? = w.heap[k]? := fun k hk => Go.RowKit.Below.heap_alloc w.drew _ k hk
    refine ⟨_, _, hrun, .inr ⟨w.heap.size, cp, _, _, by rw [hcs], by omega, fun h => Nat.lt_irrefl _ (hB _ h), fun k h => Nat.lt_irrefl _ (hI _ _ h), by omega, hnew, Nat.zero_le _, by omega, ?_, by omega, fun k x hk => ?_⟩,
      ((Near.refl w b _).drew).alloc _, hold b hbl⟩
    · simp only [Array.size_append, zeroCells_size, hzz, hosz, hnsz]; omega
    · rcases cat_get hk with ⟨hlt, hk⟩ | ⟨hle, hk⟩
      · rw [Array.getElem?_append, if_pos (by simp only [Array.size_append]; omega), Array.getElem?_append, if_pos (by omega)]
        exact holds k x hk
      · have h2 := hnews _ x hk
        have hlt2 : k - c.size < news.size := (Array.getElem?_eq_some_iff.1 h2).1
        rw [Array.getElem?_append, if_pos (by simp only [Array.size_append]; omega), Array.getElem?_append, if_neg (by omega), hosz]
        exact h2
  rcases hbuf with ⟨rfl, hc0⟩ | ⟨g, cap, cur, fz, rfl, q2, q3, q4, q5, q6, q7, q8, q9, q10, q11⟩
  · by_cases hs0 : s.size = 0
    · have hrun := run_append_none (P := P) (w := w) (ty := ty) ht ht2 hi hx (sLen := 0) (sCap := 0) (by omega)
      refine ⟨.slice none 0 0, w, by rw [hs0] at hrun; exact hrun, .inl ⟨rfl, by omega⟩, .refl _ _ _, rfl⟩
    · refine grow none 0 #[] (by rw [hc0]) (by omega) ⟨fun _ => by rw [hc0]; rfl, fun _ _ => by rw [hc0]; simp [Builtin.firstCells], by rw [hc0]; simp⟩ (fun k x hk => ?_) hs0
      have := (List.getElem?_eq_some_iff.1 hk).1
      rw [hlen] at this; omega
  · have hcell : ∀ k, k < cap → w.cell? ⟨g, k, none⟩ = some (cur.getD k undef) := fun k hk => cell_of_block q6 (by omega)
    by_cases hfit : c.size + s.size ≤ cap
    · have hrun := run_append_fits (P := P) (w := w) (ty := ty) ht ht2 hi hx (b := g) (o := 0) (sLen := c.size) (sCap := cap) hfit (fun j hj => by rw [hs1, hcell _ (by omega)]; rfl) (fun j hj => by
        obtain ⟨lo, hi'⟩ := fz
        simp only [World.frozen?, q6, hs1, Bool.and_eq_false_iff, decide_eq_false_iff_not]
        right; simp only at q7; omega) h1
      rw [hs1] at hrun
      obtain ⟨vs', p1, p2, p3⟩ := setCells_heap g news.toList (0 + c.size * 1) w cur _ fz q6 (by simp; omega)
      have hb0 := setCells_below (B := fun _ => False) g (fun h => h) news.toList (0 + c.size * 1) w
      refine ⟨_, _, hrun, .inr ⟨g, cap, vs', fz, by rw [hcs], q2, q3, q4, by omega, p1, by omega, by omega, by omega, by omega, fun k x hk => ?_⟩, ⟨hb0.os, hb0.tape, hb0.output, hb0.size, fun k hk hkb hv => setCells_other _ _ _ _ _ (fun e => hv c.size cap (by rw [e]))⟩, setCells_other _ _ _ _ _ (Ne.symm q2)⟩
      rcases cat_get hk with ⟨hlt, hk⟩ | ⟨hle, hk⟩
      · refine getElem?_of_getD (by omega) ?_
        rw [p3, if_neg (by omega)]
        exact getD_of_getElem? (q11 k x hk)
      · have h2 := hnews _ x hk
        have hlt2 : k - c.size < news.size := (Array.getElem?_eq_some_iff.1 h2).1
        refine getElem?_of_getD (by omega) ?_
        rw [p3, if_pos (by simp; omega)]
        have e : k - (0 + c.size * 1) = k - c.size := by omega
        rw [e, List.getD_eq_getElem?_getD, Array.getElem?_toList, h2]; rfl
    · have hfirst : ∀ w', w'.heap = w.heap → (Builtin.firstCells i.size c.size (.slice (some ⟨g, 0, none⟩) c.size cap)).run P w' = .ok ((List.range (c.size * 1)).map fun k => cur.getD k undef).toArray w' := fun w' hw => by
        rw [hs1]
        refine run_firstCells_some (P := P) w' 1 c.size ⟨g, 0, none⟩ c.size cap ((List.range (c.size * 1)).map fun k => cur.getD k undef) (by simp) (fun j u hj => ?_)
        have hj2 : j < c.size := by have := (List.getElem?_eq_some_iff.1 hj).1; simpa using this
        simp [hj2] at hj
        subst hj
        have e : ((⟨g, 0, none⟩ : Addr).add j) = ⟨g, j, none⟩ := by unfold Addr.add; split <;> simp_all
        rw [e]
        have := hcell j (by omega)
        unfold World.cell? at this ⊢
        rw [hw]
        simpa [Array.getD_eq_getD_getElem?] using this
      refine grow (some ⟨g, 0, none⟩) cap _ rfl (by omega) ⟨fun _ => rfl, hfirst, by simp [hs1]⟩ (fun k x hk => ?_) (by omega)
      have hlt : k < c.size := by have := (List.getElem?_eq_some_iff.1 hk).1; rwa [hlen] at this
      have := getD_of_getElem? (q11 k x hk)
      simp [hlt]
      simpa [Array.getD_eq_getD_getElem?] using this
end

theorem src_str {w : World} (s : ByteArray) : Src P w (.string s) s.size 1 (Lib.strCells s).toArray ∧ (∀ (k : Nat) (x : UInt8), s.data.toList[k]? = some x → (Lib.strCells s).toArray[k]? = some (.int .u8 x.toNat)) ∧ ∀ x ∈ (Lib.strCells s).toArray.toList, x.oneCell' = true :=
  ⟨⟨fun _ => rfl, fun w' _ => Lib.run_firstCells_string w' 1 s, by simp [Lib.strCells_length]⟩, fun k x hk => by
    rw [List.getElem?_toArray]
    unfold Lib.strCells
    rw [List.getElem?_map, hk]; rfl, by simpa using Lib.strCells_oneCell s⟩

theorem src_one {w : World} {g : Nat} {u : Value} {t : TypeId} {fr : Nat × Nat} (hg : w.heap[g]? = some (.cells #[u] t fr)) : Src P w (.slice (some ⟨g, 0, none⟩) 1 1) 1 1 #[u] := by
  refine ⟨fun _ => rfl, fun w' hw => ?_, rfl⟩
  refine run_firstCells_some (P := P) w' 1 1 ⟨g, 0, none⟩ 1 1 [u] rfl (fun j v hj => ?_)
  have hj2 : j < 1 := by have := (List.getElem?_eq_some_iff.1 hj).1; simpa using this
  obtain rfl : j = 0 := by omega
  have e : ((⟨g, 0, none⟩ : Addr).add 0) = ⟨g, 0, none⟩ := rfl
  rw [e]
  unfold World.cell?
  rw [hw, hg]
  simpa using hj

section
variable [Glb]
/-- an entry into a builder's method -/
theorem bld_enter [Ops] [Lim] {B : Gd} {ι : Nat → Option Nat} {I : Nat → Nat → Prop} {w : World} {c : ByteArray} {v0 : Value} (hrel : Rel B ι I w [.bld c]) (h : RepA w I ι [.bld c] v0 (.ptr 0 0)) :
    ∃ b p v, v0 = .pointer (some ⟨b, 0, none⟩) ∧ ι 0 = some b ∧ w.heap[b]? = some (.cells #[p, v] Glb.bt (0, 0)) ∧ (p = .pointer none ∨ p = .pointer (some ⟨b, 0, none⟩)) ∧ BufOk B I w b c v := by
  cases h with | ptr _ _ _ ho hq hv =>
  obtain ⟨b, q1, rfl⟩ := hq _ rfl trivial
  obtain ⟨b0, p0, v0, k1, k2, k3, k4, k5, k6⟩ := hrel.obj 0 _ rfl
  obtain rfl : b = b0 := by rw [q1] at k1; exact Option.some.inj k1
  exact ⟨b, p0, v0, rfl, q1, k3, k4, k6⟩

theorem bld_fin [Ops] [Lim] {B : Gd} {ι : Nat → Option Nat} {I : Nat → Nat → Prop} {w w' : World} {c c' : ByteArray} {b : Nat} {p v v' : Value} (hrel : Rel B ι I w [.bld c]) (hi : ι 0 = some b)
    (hb : w.heap[b]? = some (.cells #[p, v] Glb.bt (0, 0))) (hn : Near w w' b v) (hb' : w'.heap[b]? = some (.cells #[.pointer (some ⟨b, 0, none⟩), v] Glb.bt (0, 0)))
    (hbuf' : BufOk B I w' b c' v') : Rel B ι I (w'.setCell ⟨b, 1, none⟩ v') [.bld c'] ∧ Keep B w I ι [.bld c] (w'.setCell ⟨b, 1, none⟩ v') I ι [.bld c'] := by
  refine bld_done (p' := .pointer (some ⟨b, 0, none⟩)) (v' := v') hrel hi hb (hn.setCell 1 v') ?_ (.inr rfl) ?_
  · simp [World.setCell, Array.getElem?_modify, hb']
  · rcases hbuf' with h | ⟨g, cap, cur, fz, q1, q2, q3, q4, q5, q6, q7⟩
    · exact .inl h
    · exact .inr ⟨g, cap, cur, fz, q1, q2, q3, q4, q5, (Go.RowKit.Below.heap_setCell _ _ _ _ q2).trans q6, q7⟩

theorem tup2 {w : World} {I : Nat → Nat → Prop} {ι : Nat → Option Nat} {H : AHeap} {v1 v2 : Value} {x1 x2 : D} (h1 : RepD w I v1 x1) (h2 : RepD w I v2 x2) : RepA w I ι H (.tuple #[v1, v2]) (.tup [.d x1, .d x2]) := by
  refine .tup [v1, v2] _ rfl fun k hk => ?_
  match k, hk with
  | 0, _ => exact .d _ _ h1
  | 1, _ => exact .d _ _ h2

set_option maxHeartbeats 2000000 in
set_option maxRecDepth 100000 in
/-- (*strings.Builder).WriteString -/
theorem vc_WriteString (L : Lays.n166 P ρ) (X : Builder.Extra P ρ) (hbt : Glb.bt = ρ.t 72) (hu8 : Glb.u8 = ρ.t 5) (c s : ByteArray) (hlim : c.size + s.size ≤ 140737488355328) :
    VCalls P (ρ.f 166) [.ptr 0 0, .d (.str s)] [.bld c] (fun r H' => r = .tup [.d (.int .i64 s.size), .d .nili] ∧ H' = [.bld (c ++ s)]) := by
  refine Ops.exists_one.elim fun inst => ?_
  intro lim B ι I w vs hrel hargs
  obtain ⟨hl, hk⟩ := hargs
  match vs, hl with
  | [a0, a1], _ =>
  have h0 := hk 0 (by simp)
  have h1 := hk 1 (by simp)
  simp only [List.getD_cons_zero, List.getD_cons_succ] at h0 h1
  cases h1 with | d _ _ h1 =>
  cases h1
  obtain ⟨b, p, v, rfl, hib, hb, hp, hbuf⟩ := bld_enter hrel h0
  have hbtw := hb
  rw [hbt] at hbtw
  obtain ⟨i0, hi, hz0, hz1, hz2⟩ := info_parts X.infoByte
  have mixed := L.mixed
  have t72 := L.t72; have a72 := L.a72; have z72 := L.z72; have v72 := L.v72; have u72 := run_underlying L.t72
  have t70 := L.t70; have a70 := L.a70; have z70 := L.z70; have v70 := L.v70; have u70 := run_underlying L.t70
  have t37 := L.t37; have a37 := L.a37; have z37 := L.z37; have v37 := L.v37; have u37 := run_underlying L.t37
  have t3 := L.t3; have a3 := L.a3; have z3 := L.z3; have v3 := L.v3; have u3 := run_underlying L.t3
  have t9 := L.t9; have a9 := L.a9; have z9 := L.z9; have v9 := L.v9; have u9 := run_underlying L.t9
  have t4 := L.t4; have a4 := L.a4; have z4 := L.z4; have v4 := L.v4; have u4 := run_underlying L.t4
  have t164 := L.t164; have a164 := L.a164; have z164 := L.z164; have v164 := L.v164; have u164 := run_underlying L.t164
  have t5 := X.t5; have a5 := X.a5; have z5 := X.z5; have v5 := X.v5; have u5 := run_underlying X.t5
  have e240 : ∀ args w, (callFunc (ρ.f 240) args).run P w = .ok (.enter (ρ.f 240) args) w := enters_of L.f240 (by kernel_rfl) rfl
  go_enter L.f166, Body.n166_ntmps ρ
  go_wp2_with (go_at_fn (ρ.f 240); refine (calls_copyCheck { L with } X.toX72 hbtw hp).mono ?_)
  rintro e w1 ⟨rfl, hb1, hn1, hs1, hk1⟩
  have hlt : b < w.heap.size := lt_of_heap hb
  have hbuf1 : BufOk B I w1 b c v := by
    rcases hbuf with h | ⟨g, cap, cur, fz, q1, q2, q3, q4, q5, q6, q7⟩
    · exact .inl h
    · exact .inr ⟨g, cap, cur, fz, q1, q2, q3, q4, q5, (hk1 g q2).trans q6, q7⟩
  obtain ⟨sr1, sr2, sr3⟩ := src_str (P := P) (w := w1) s
  obtain ⟨v', w2, hrun, hbuf2, hn2, hb2⟩ := append_buf (P := P) (ty := ρ.t 37) (t := ρ.t 37) (t2 := ρ.t 9) L.t37 (.inl L.t9) hi hz0 hz1 hz2 hu8.symm hbuf1 (fun k hk => by rw [hs1]; exact hrel.base k hk) (fun k q hk => by rw [hs1]; exact hrel.imm k q hk) (by omega) s sr1 sr2 sr3 hlim
  rw [hb1] at hb2
  have c0 : w1.cell? ⟨b, 0, none⟩ = some (.pointer (some ⟨b, 0, none⟩)) := by rw [Lib.cell_of_heap hb1]; rfl
  have c1 : w1.cell? ⟨b, 1, none⟩ = some v := by rw [Lib.cell_of_heap hb1]; rfl
  have d0 : w2.cell? ⟨b, 0, none⟩ = some (.pointer (some ⟨b, 0, none⟩)) := by rw [Lib.cell_of_heap hb2]; rfl
  have d1 : w2.cell? ⟨b, 1, none⟩ = some v := by rw [Lib.cell_of_heap hb2]; rfl
  have f1 : w2.frozen? ⟨b, 1, none⟩ = false := Lib.frozen_of_heap hb2 1
  obtain ⟨ao, n', cp, rfl⟩ : ∃ ao n' cp, v' = .slice ao n' cp := by
    rcases hbuf2 with h | ⟨g, cap, cur, fz, h, h2⟩
    · exact ⟨_, _, _, h.1⟩
    · exact ⟨_, _, _, h⟩
  go_wp2_with (at_builtin; refine wpList_append_run rfl _ _ (ρ.t 37) (ρ.t 9) rfl rfl rfl hrun ?_)
  go_ret2
  obtain ⟨f1, f2⟩ := bld_fin hrel hib hb (hn1.trans hn2) (by rw [hbt]; exact hb2) hbuf2
  exact ⟨_, _, _, ι, I, rfl, ⟨rfl, rfl⟩, f1, tup2 (.int _ _) .nili, f2⟩

set_option maxHeartbeats 2000000 in
set_option maxRecDepth 100000 in
/-- (*strings.Builder).WriteByte -/
theorem vc_WriteByte (L : Lays.n167 P ρ) (X : Builder.Extra P ρ) (hbt : Glb.bt = ρ.t 72) (hu8 : Glb.u8 = ρ.t 5) (c : ByteArray) (x : UInt8) (n : Int) (hx : n = x.toNat) (hlim : c.size + 1 ≤ 140737488355328) :
    VCalls P (ρ.f 167) [.ptr 0 0, .d (.int .u8 n)] [.bld c] (fun r H' => r = .d .nili ∧ H' = [.bld (c ++ ⟨#[x]⟩)]) := by
  refine Ops.exists_one.elim fun inst => ?_
  intro lim B ι I w vs hrel hargs
  obtain ⟨hl, hk⟩ := hargs
  match vs, hl with
  | [a0, a1], _ =>
  have h0 := hk 0 (by simp)
  have h1 := hk 1 (by simp)
  simp only [List.getD_cons_zero, List.getD_cons_succ] at h0 h1
  cases h1 with | d _ _ h1 =>
  cases h1
  subst hx
  obtain ⟨b, p, v, rfl, hib, hb, hp, hbuf⟩ := bld_enter hrel h0
  have hbtw := hb
  rw [hbt] at hbtw
  obtain ⟨i0, hi, hz0, hz1, hz2⟩ := info_parts X.infoByte
  have mixed := L.mixed
  have t72 := L.t72; have a72 := L.a72; have z72 := L.z72; have v72 := L.v72; have u72 := run_underlying L.t72
  have t70 := L.t70; have a70 := L.a70; have z70 := L.z70; have v70 := L.v70; have u70 := run_underlying L.t70
  have t5 := L.t5; have a5 := L.a5; have z5 := L.z5; have v5 := L.v5; have u5 := run_underlying L.t5
  have t37 := L.t37; have a37 := L.a37; have z37 := L.z37; have v37 := L.v37; have u37 := run_underlying L.t37
  have t9 := L.t9; have a9 := L.a9; have z9 := L.z9; have v9 := L.v9; have u9 := run_underlying L.t9
  have t4 := L.t4; have a4 := L.a4; have z4 := L.z4; have v4 := L.v4; have u4 := run_underlying L.t4
  have t164 := L.t164; have a164 := L.a164; have z164 := L.z164; have v164 := L.v164; have u164 := run_underlying L.t164
  have e240 : ∀ args w, (callFunc (ρ.f 240) args).run P w = .ok (.enter (ρ.f 240) args) w := enters_of L.f240 (by kernel_rfl) rfl
  go_enter L.f167, Body.n167_ntmps ρ
  go_wp2_with (go_at_fn (ρ.f 240); refine (calls_copyCheck { L with } X.toX72 hbtw hp).mono ?_)
  rintro e w1 ⟨rfl, hb1, hn1, hs1, hk1⟩
  have hlt : b < w.heap.size := lt_of_heap hb
  have c0 : w1.cell? ⟨b, 0, none⟩ = some (.pointer (some ⟨b, 0, none⟩)) := by rw [Lib.cell_of_heap hb1]; rfl
  have c1 : w1.cell? ⟨b, 1, none⟩ = some v := by rw [Lib.cell_of_heap hb1]; rfl
  have hbuf1 : ∀ o : Obj, BufOk B I (w1.alloc o) b c v := fun o => by
    rcases hbuf with h | ⟨g, cap, cur, fz, q1, q2, q3, q4, q5, q6, q7⟩
    · exact .inl h
    · exact .inr ⟨g, cap, cur, fz, q1, q2, q3, q4, q5, (Go.RowKit.Below.heap_alloc w1 o g (by rw [hs1]; exact lt_of_heap q6)).trans ((hk1 g q2).trans q6), q7⟩
  have hsz : ∀ o : Obj, (w1.alloc o).heap.size = w.heap.size + 1 := fun o => by rw [← hs1]; simp
  go_wp2_with (at_builtin; refine wpList_append_ex rfl _ _ (ρ.t 37) (ρ.t 37) rfl rfl rfl (append_buf (P := P) L.t37 (.inr ⟨_, L.t37⟩) hi hz0 hz1 hz2 hu8.symm (hbuf1 _) (fun k hk => by rw [hsz]; have := hrel.base k hk; omega) (fun k q hk => by rw [hsz]; have := hrel.imm k q hk; omega) (by rw [hsz]; omega) ⟨#[x]⟩ (news := #[.int .u8 x.toNat]) ?c1 ?c2 ?c3 ?c4) ?_)
  case c1 => exact src_one (by rw [← hs1]; exact heap_alloc_new _ _)
  case c2 => intro k y hk; match k, hk with | 0, hk => simp at hk; subst hk; rfl
  case c3 => rfl
  case c4 => exact hlim
  intro v' w2 hbuf2 hn2 hb2
  rw [← Array.getElem?_eq_getElem] at hb2
  rw [Go.RowKit.Below.heap_alloc _ _ _ (by omega), hb1] at hb2
  have d0 : w2.cell? ⟨b, 0, none⟩ = some (.pointer (some ⟨b, 0, none⟩)) := by rw [Lib.cell_of_heap hb2]; rfl
  have d1 : w2.cell? ⟨b, 1, none⟩ = some v := by rw [Lib.cell_of_heap hb2]; rfl
  have f1 : w2.frozen? ⟨b, 1, none⟩ = false := Lib.frozen_of_heap hb2 1
  obtain ⟨ao, n', cp, rfl⟩ : ∃ ao n' cp, v' = .slice ao n' cp := by
    rcases hbuf2 with h | ⟨g, cap, cur, fz, h, h2⟩
    · exact ⟨_, _, _, h.1⟩
    · exact ⟨_, _, _, h⟩
  go_wp2
  go_ret
  obtain ⟨f1, f2⟩ := bld_fin hrel hib hb ((hn1.alloc _).trans hn2) (by rw [hbt]; exact hb2) hbuf2
  exact ⟨_, _, _, ι, I, rfl, ⟨rfl, rfl⟩, f1, .d _ _ .nili, f2⟩

set_option maxHeartbeats 2000000 in
set_option maxRecDepth 100000 in
/-- (*strings.Builder).Len -/
theorem vc_Len (L : Lays.n170 P ρ) (hbt : Glb.bt = ρ.t 72) (c : ByteArray) :
    VCalls P (ρ.f 170) [.ptr 0 0] [.bld c] (fun r H' => r = .d (.int .i64 c.size) ∧ H' = [.bld c]) := by
  refine Ops.exists_one.elim fun inst => ?_
  intro lim B ι I w vs hrel hargs
  obtain ⟨hl, hk⟩ := hargs
  match vs, hl with
  | [a0], _ =>
  have h0 := hk 0 (by simp)
  simp only [List.getD_cons_zero] at h0
  obtain ⟨b, p, v, rfl, hib, hb, hp, hbuf⟩ := bld_enter hrel h0
  obtain ⟨ao, cp, rfl⟩ : ∃ ao cp, v = .slice ao c.size cp := by
    rcases hbuf with h | ⟨g, cap, cur, fz, h, h2⟩
    · exact ⟨none, 0, by rw [h.2]; exact h.1⟩
    · exact ⟨_, _, h⟩
  have c1 : w.drew.cell? ⟨b, 1, none⟩ = some (.slice ao c.size cp) := by
    have hb' : w.drew.heap[b]? = some (.cells #[p, .slice ao c.size cp] Glb.bt (0, 0)) := hb
    rw [Lib.cell_of_heap hb']; rfl
  have c2 : w.cell? ⟨b, 1, none⟩ = some (.slice ao c.size cp) := c1
  have mixed := L.mixed
  have t72 := L.t72; have a72 := L.a72; have z72 := L.z72; have v72 := L.v72; have u72 := run_underlying L.t72
  have t70 := L.t70; have a70 := L.a70; have z70 := L.z70; have v70 := L.v70; have u70 := run_underlying L.t70
  have t37 := L.t37; have a37 := L.a37; have z37 := L.z37; have v37 := L.v37; have u37 := run_underlying L.t37
  have t3 := L.t3; have a3 := L.a3; have z3 := L.z3; have v3 := L.v3; have u3 := run_underlying L.t3
  go_enter L.f170, Body.n170_ntmps ρ
  go_wp2
  go_ret
  exact ⟨_, _, _, ι, I, rfl, ⟨rfl, rfl⟩, hrel, .d _ _ (.int _ _), ⟨.refl _ _, fun _ _ _ => rfl, fun _ _ h => h, Nat.le_refl _, fun _ _ h => h⟩⟩

theorem bld_froze [Ops] [Lim] {B : Gd} {ι : Nat → Option Nat} {I : Nat → Nat → Prop} {w : World} {c : ByteArray} {b g cap : Nat} {p : Value} {cur : Array Value} {fz : Nat × Nat} (hrel : Rel B ι I w [.bld c]) (hi : ι 0 = some b)
    (hb : w.heap[b]? = some (.cells #[p, .slice (some ⟨g, 0, none⟩) c.size cap] Glb.bt (0, 0))) (hp : p = .pointer none ∨ p = .pointer (some ⟨b, 0, none⟩))
    (q2 : g ≠ b) (q3 : ¬ B g) (q4 : ∀ k, ¬ I g k) (q5 : c.size ≠ 0) (q6 : w.heap[g]? = some (.cells cur Glb.u8 fz)) (q7 : fz.2 ≤ c.size) (q8 : c.size ≤ cap) (q9 : cap ≤ cur.size) (q10 : c.size ≤ 140737488355328)
    (q11 : ∀ (k : Nat) (x : UInt8), c.data.toList[k]? = some x → cur[k]? = some (Value.int .u8 x.toNat)) :
    Rel B ι I (w.drew.freeze ⟨g, 0, none⟩ c.size) [.bld c] ∧ Keep B w I ι [.bld c] (w.drew.freeze ⟨g, 0, none⟩ c.size) I ι [.bld c] := by
  have hother : ∀ k, k ≠ g → (w.drew.freeze ⟨g, 0, none⟩ c.size).heap[k]? = w.heap[k]? := fun k hk => by
    unfold World.freeze
    rw [if_neg q5]
    simp only [Array.getElem?_modify]
    rw [if_neg (fun e => hk e.symm)]
    rfl
  refine bld_done hrel hi hb ⟨?_, ?_, ?_, ?_, fun k _ _ hv => hother k (fun e => hv c.size cap (by rw [e]))⟩ ((hother b (Ne.symm q2)).trans hb) hp (.inr ⟨g, cap, cur, if fz.1 == fz.2 then (0, 0 + c.size) else (min fz.1 0, max fz.2 (0 + c.size)), rfl, q2, q3, q4, q5, ?_, ?_, q8, q9, q10, q11⟩)
  · unfold World.freeze; rw [if_neg q5]; rfl
  · unfold World.freeze; rw [if_neg q5]; rfl
  · unfold World.freeze; rw [if_neg q5]; rfl
  · unfold World.freeze; rw [if_neg q5]; simp
  · unfold World.freeze
    rw [if_neg q5]
    have hd : w.drew.heap[g]? = some (.cells cur Glb.u8 fz) := q6
    simp only [Array.getElem?_modify, hd]
    rfl
  · split <;> simp <;> omega

set_option maxHeartbeats 2000000 in
set_option maxRecDepth 100000 in
/-- (*strings.Builder).String -/
theorem vc_String (L : Lays.n169 P ρ) (X : Builder.Extra P ρ) (hbt : Glb.bt = ρ.t 72) (hu8 : Glb.u8 = ρ.t 5) (c : ByteArray) :
    VCalls P (ρ.f 169) [.ptr 0 0] [.bld c] (fun r H' => r = .d (.str c) ∧ H' = [.bld c]) := by
  refine Ops.exists_one.elim fun inst => ?_
  intro lim B ι I w vs hrel hargs
  obtain ⟨hl, hk⟩ := hargs
  match vs, hl with
  | [a0], _ =>
  have h0 := hk 0 (by simp)
  simp only [List.getD_cons_zero] at h0
  obtain ⟨b, p, v, rfl, hib, hb, hp, hbuf⟩ := bld_enter hrel h0
  have mixed := L.mixed
  have t72 := L.t72; have a72 := L.a72; have z72 := L.z72; have v72 := L.v72; have u72 := run_underlying L.t72
  have t70 := L.t70; have a70 := L.a70; have z70 := L.z70; have v70 := L.v70; have u70 := run_underlying L.t70
  have t37 := L.t37; have a37 := L.a37; have z37 := L.z37; have v37 := L.v37; have u37 := run_underlying L.t37
  have t127 := L.t127; have a127 := L.a127; have z127 := L.z127; have v127 := L.v127; have u127 := run_underlying L.t127
  have t3 := L.t3; have a3 := L.a3; have z3 := L.z3; have v3 := L.v3; have u3 := run_underlying L.t3
  have t9 := L.t9; have a9 := L.a9; have z9 := L.z9; have v9 := L.v9; have u9 := run_underlying L.t9
  have t5 := X.t5; have a5 := X.a5; have z5 := X.z5; have v5 := X.v5; have u5 := run_underlying X.t5
  have hrelD : Rel B ι I w.drew [.bld c] := Rel.heap (w := w) (w' := w.drew) rfl hrel
  rcases hbuf with ⟨rfl, hc0⟩ | ⟨g, cap, cur, fz, rfl, q2, q3, q4, q5, q6, q7, q8, q9, q10, q11⟩
  · -- no byte
    have hUS := Any.unsafeString_none L X
    have c1 : w.drew.cell? ⟨b, 1, none⟩ = some (.slice none 0 0) := by
      have hb' : w.drew.heap[b]? = some (.cells #[p, .slice none 0 0] Glb.bt (0, 0)) := hb
      rw [Lib.cell_of_heap hb']; rfl
    have hSD : (Builtin.unsafeSliceData_ #[(ρ.t 37)] (ρ.t 127) #[.slice none 0 0]).run P w.drew = .ok (.pointer none) w.drew := rfl
    have hce : c = ByteArray.empty := by
      apply ByteArray.ext
      exact Array.eq_empty_of_size_eq_zero hc0
    go_enter L.f169, Body.n169_ntmps ρ
    go_wp2
    go_region_o
    all_goals (go_wp2; go_ret; exact ⟨_, _, _, ι, I, rfl, ⟨by rw [hce], rfl⟩, hrelD, .d _ _ (.str _), ⟨(Below.refl _ _).drew, fun _ _ _ => rfl, fun _ _ h => h, Nat.le_refl _, fun v x h => h.goes (Goes.heap (w := w) (w' := w.drew) rfl I ι _)⟩⟩)
  · -- bytes
    have hlen : c.data.toList.length = c.size := Array.length_toList
    have hl0 : c.data.toList ≠ [] := fun h => by rw [h] at hlen; exact q5 hlen.symm
    have c1 : w.drew.cell? ⟨b, 1, none⟩ = some (.slice (some ⟨g, 0, none⟩) c.size cap) := by
      have hb' : w.drew.heap[b]? = some (.cells #[p, .slice (some ⟨g, 0, none⟩) c.size cap] Glb.bt (0, 0)) := hb
      rw [Lib.cell_of_heap hb']; rfl
    have hSD : (Builtin.unsafeSliceData_ #[(ρ.t 37)] (ρ.t 127) #[.slice (some ⟨g, 0, none⟩) c.size cap]).run P w.drew = .ok (.pointer (some ⟨g, 0, none⟩)) w.drew :=
      Lib.run_unsafeSliceData_row _ _ _ _ _ _ (by omega)
    have hg' : w.drew.heap[g]? = some (.cells cur (ρ.t 5) fz) := by rw [← hu8]; exact q6
    have hUS : (Builtin.unsafeString_ #[(ρ.t 127), (ρ.t 3)] (ρ.t 9) #[.pointer (some ⟨g, 0, none⟩), .int .i64 c.size]).run P w.drew = .ok (.string c) (w.drew.freeze ⟨g, 0, none⟩ c.size) := by
      have := Lib.run_unsafeString_row (P := P) w.drew (ρ.t 127) (ρ.t 3) (ρ.t 9) (ρ.t 5) L.t127 X.cellsByte g cur.size (by simp [World.shape?, hg']) c.data.toList hl0 (by omega) (by omega) (fun j x hx => ?_)
      · rw [hlen] at this
        exact this
      · have e : ((⟨g, 0, none⟩ : Addr).add j) = ⟨g, j, none⟩ := by unfold Addr.add; split <;> simp_all
        rw [e]
        unfold World.cell?
        rw [hg']
        exact q11 j x hx
    go_enter L.f169, Body.n169_ntmps ρ
    go_wp2
    go_region_o
    all_goals (go_wp2; go_ret)
    all_goals
      obtain ⟨hf1, hf2⟩ := bld_froze hrel hib hb hp q2 q3 q4 q5 q6 q7 q8 q9 q10 q11
      exact ⟨_, _, _, ι, I, rfl, ⟨rfl, rfl⟩, hf1, .d _ _ (.str _), hf2⟩

theorem ren_ds (e : Nat → Nat) : ∀ ds : List D, ren.renL e (ds.map A.d) = ds.map A.d
  | [] => rfl
  | _ :: r => by simp [ren.renL, ren, ren_ds e r]

theorem bel_ds (m : Nat) : ∀ (ds : List D) k, k < (ds.map A.d).length → Bel m ((ds.map A.d).getD k .undef)
  | [], k, hk => absurd hk (by simp)
  | x :: r, 0, _ => .d x
  | x :: r, k + 1, hk => by simpa using bel_ds m r k (by simpa using hk)

/-- a method's call, over whatever heap -/
theorem VCalls.bld {K : FuncId} {ds : List D} {c c' : ByteArray} {r0 : A} (h : VCalls P K (.ptr 0 0 :: ds.map .d) [.bld c] (fun r H' => r = r0 ∧ H' = [.bld c'])) (hb : Bel 1 r0) (hr0 : ∀ e, ren e r0 = r0) {H : AHeap} {o : Nat} (ho : getL H o .dead = .bld c) :
    VCalls P K (.ptr o 0 :: ds.map .d) H (fun r H' => r = r0 ∧ H' = setL H o (.bld c')) := by
  have ho : H[o]? = some (.bld c) := by
    refine Ops.exists_one.elim fun inst => ?_
    let lim : Lim := ⟨fun _ _ => True⟩
    rw [getL_eq] at ho
    exact getD_obj ho (by intro h; cases h)
  have hlt : o < H.length := (List.getElem?_eq_some_iff.1 ho).1
  have e0 : (A.ptr o 0 :: ds.map A.d) = ren.renL (fun _ => o) (.ptr 0 0 :: ds.map .d) := by simp [ren.renL, ren, ren_ds]
  rw [e0]
  refine h.frame H (fun _ => o) (fun i j hi hj _ => by simp at hi hj; omega) (fun i x hx => ?_) (fun i x hx => ?_) (fun k hk => ?_) ?_
  · have hi := (List.getElem?_eq_some_iff.1 hx).1
    obtain rfl : i = 0 := by simpa using hi
    simp at hx
    subst hx
    exact ho
  · have hi := (List.getElem?_eq_some_iff.1 hx).1
    obtain rfl : i = 0 := by simpa using hi
    simp at hx
    subst hx
    trivial
  · cases k with
    | zero => exact .ptr _ _ (by simp)
    | succ k => simpa using bel_ds 1 ds k (by simpa using hk)
  · rintro r1 H1' ⟨rfl, rfl⟩
    refine Ops.exists_one.elim fun inst => ?_
    let lim : Lim := ⟨fun _ _ => True⟩
    refine ⟨_, [.bld c'], setL H o (.bld c'), .keep _ hb, Nat.le_refl _, fun i h1 h2 => ?_, ⟨rfl, trivial⟩, fun i x hx => ?_, ?_, fun i x hx => ?_, fun o' _ ho' => ?_, hr0 _, rfl⟩
    · simp at h1 h2; omega
    · have hi := (List.getElem?_eq_some_iff.1 hx).1
      obtain rfl : i = 0 := by simpa using hi
      simp at hx
      subst hx
      trivial
    · rw [setL_eq]; simp
    · have hi := (List.getElem?_eq_some_iff.1 hx).1
      obtain rfl : i = 0 := by simpa using hi
      simp at hx
      subst hx
      rw [setL_eq]
      simp [hlt, renO]
    · have := ho' 0 (by simp)
      rw [setL_eq, List.getElem?_set_ne this]
end

end Go.VM
