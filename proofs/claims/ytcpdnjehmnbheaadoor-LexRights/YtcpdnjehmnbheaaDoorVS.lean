/- Using the logic: loops, what a step leaves, and how the words are read back. -/
import Derived.Test.YtcpdnjehmnbheaaDoorVO
set_option linter.unusedSimpArgs false
set_option linter.unusedVariables false
set_option linter.unusedSectionVars false
namespace Go.VM

variable [Glb] {Pf : Unit → Program} {n : Nat}

/-- are all objects below m -/
def belA (m : Nat) : A → Bool
  | .ref o _ _ _ => Nat.blt o m
  | .ptr o _ => Nat.blt o m
  | .eptr o _ _ _ => Nat.blt o m
  | .itr o => Nat.blt o m
  | .clo _ xs ys => belAs m xs && belAs m ys
  | .agg xs => belAs m xs
  | .tup xs => belAs m xs
  | _ => true
where belAs (m : Nat) : List A → Bool
  | [] => true
  | x :: r => belA m x && belAs m r

def belO (m : Nat) : AObj → Bool
  | .box cs => belA.belAs m cs
  | _ => true

def belH (m : Nat) : AHeap → Bool
  | [] => true
  | x :: r => belO m x && belH m r

def belS (σ : St) : Bool := belA.belAs (lenL σ.hp) σ.tm && belH (lenL σ.hp) σ.hp

mutual
theorem belA_ok {m : Nat} : ∀ {x : A}, belA m x = true → Bel m x
  | .d x, _ => .d x
  | .nils, _ => .nils
  | .ref o off len sz, h => .ref o off len sz (by simpa [belA] using h)
  | .ptr o off, h => .ptr o off (by simpa [belA] using h)
  | .eptr o i j len, h => .eptr o i j len (by simpa [belA] using h)
  | .iptr g i j sz, _ => .iptr g i j sz
  | .itr o, h => .itr o (by simpa [belA] using h)
  | .clo f xs ys, h => by
    simp only [belA, Bool.and_eq_true] at h
    exact .clo f xs ys (belAs_ok h.1) (belAs_ok h.2)
  | .agg xs, h => by
    simp only [belA] at h
    exact .agg xs (belAs_ok h)
  | .tup xs, h => by
    simp only [belA] at h
    exact .tup xs (belAs_ok h)
  | .undef, _ => .undef
theorem belAs_ok {m : Nat} : ∀ {xs : List A}, belA.belAs m xs = true → ∀ k, k < xs.length → Bel m (xs.getD k .undef)
  | [], _, k, hk => absurd hk (by simp)
  | x :: r, h, k, hk => by
    simp only [belA.belAs, Bool.and_eq_true] at h
    cases k with
    | zero => simpa using belA_ok h.1
    | succ k => simpa using belAs_ok h.2 k (by simpa using hk)
end

theorem belH_ok {m : Nat} : ∀ {H : AHeap}, belH m H = true → ∀ (o : Nat) (x : AObj), H[o]? = some x → BelO m x
  | [], _, o, x, h => by simp at h
  | y :: r, hb, o, x, h => by
    simp only [belH, Bool.and_eq_true] at hb
    cases o with
    | zero =>
      simp at h; subst h
      cases y <;> first | trivial | exact belAs_ok hb.1
    | succ o => exact belH_ok hb.2 o x (by simpa using h)

theorem lenL_length {α : Type} : ∀ l : List α, lenL l = l.length
  | [] => rfl
  | _ :: r => by simp [lenL, lenL_length r]

theorem belS_ok {σ : St} (h : belS σ = true) : BelS σ := by
  simp only [belS, Bool.and_eq_true, lenL_length] at h
  exact ⟨belAs_ok h.1, belH_ok h.2⟩

/-- THE LOOP: S y, the state at the loop's head, of ghosts y that are ok; m falls. -/
theorem loopV {Tf : ∀ [Ops], Unit → Tab} (hT : ∀ [Ops], TabOk (Pf ()) (Tf ())) {c : Code} {Q : Ex → St → Prop} {σ : St} {Y : Type} (S : Y → St) (m : Y → Nat) (ok : Y → Prop) (y0 : Y) (h0 : ok y0) (hle : leS n (S y0) σ) (hb : ∀ y, belS (S y) = true)
    (round : ∀ [Ops] (y : Y) (Bk : St → Prop), ok y → (∀ y' s', m y' < m y → ok y' → leS n (S y') s' → Bk s') → W Pf Tf n c (seqQ Bk Q) (S y)) : LoopVW Pf n c Q σ := by
  refine Ops.exists_one.elim fun inst => ⟨fun lim => ?_⟩
  refine VW_loop (fun k s => ∃ y, ok y ∧ m y = k ∧ s = S y) (m y0) ⟨S y0, hle, belS_ok (hb y0), y0, h0, rfl, rfl⟩ ?_
  rintro k s ⟨y, hy, rfl, rfl⟩
  refine W_ok (Tf := Tf) hT _ _ _ (round y _ hy ?_)
  intro y' s' hm hy' hle'
  exact ⟨m y', S y', hm, hle', belS_ok (hb y'), y', hy', rfl, rfl⟩

/-- slots: those listed, all others forgotten -/
def mk : Nat → List (Nat × A) → List A
  | 0, _ => []
  | n + 1, [] => .undef :: mk n []
  | n + 1, (0, a) :: r => a :: mk n (dec r)
  | n + 1, (k + 1, a) :: r => .undef :: mk n ((k, a) :: dec r)
where dec : List (Nat × A) → List (Nat × A)
  | [] => []
  | (k, a) :: r => (k - 1, a) :: dec r

theorem Deq.of_eq {x y : D} (h : x = y) : Deq x y := h ▸ .refl x
theorem leA_undef (x : A) : leA .undef x = True := rfl
theorem leL_undef (x : A) : leL .undef x = True := rfl
theorem leA_d (x y : D) : leA (.d x) (.d y) = Deq y x := propext ⟨fun ⟨z, h1, h2⟩ => by cases h1; exact h2, fun h => ⟨y, rfl, h⟩⟩
theorem leL_d (x y : D) : leL (.d x) (.d y) = Deq y x := propext ⟨fun ⟨z, h1, h2⟩ => by cases h1; exact h2, fun h => ⟨y, rfl, h⟩⟩
theorem exD (x y : D) : (∃ z, A.d x = A.d z ∧ Deq z y) = Deq x y := propext ⟨fun ⟨z, h1, h2⟩ => by cases h1; exact h2, fun h => ⟨x, rfl, h⟩⟩
theorem exL (xs : List A) (p : List A → Prop) : (∃ ys, A.agg xs = A.agg ys ∧ p ys) = p xs := propext ⟨fun ⟨z, h1, h2⟩ => by cases h1; exact h2, fun h => ⟨xs, rfl, h⟩⟩
theorem exT (xs : List A) (p : List A → Prop) : (∃ ys, A.tup xs = A.tup ys ∧ p ys) = p xs := propext ⟨fun ⟨z, h1, h2⟩ => by cases h1; exact h2, fun h => ⟨xs, rfl, h⟩⟩
theorem exA (n sz m sz' fz : Nat) (g : Nat → Nat → D) (p : (Nat → Nat → D) → Nat → Prop) : (∃ g' fz', AObj.arr n sz g fz = AObj.arr m sz' g' fz' ∧ p g' fz') = (n = m ∧ sz = sz' ∧ p g fz) := propext ⟨fun ⟨g', fz', h1, h2⟩ => by cases h1; exact ⟨rfl, rfl, h2⟩, fun ⟨h1, h2, h3⟩ => ⟨g, fz, by rw [h1, h2], h3⟩⟩
theorem exB (xs : List A) (p : List A → Prop) : (∃ ys, AObj.box xs = AObj.box ys ∧ p ys) = p xs := propext ⟨fun ⟨z, h1, h2⟩ => by cases h1; exact h2, fun h => ⟨xs, rfl, h⟩⟩
theorem deq_int (k k' : IntKind) (a b : Int) : Deq (.int k a) (.int k' b) = (k = k' ∧ a = b) := propext ⟨fun h => by cases h; exact ⟨rfl, rfl⟩, fun ⟨h1, h2⟩ => .of_eq (by rw [h1, h2])⟩
theorem deq_bool (a b : Bool) : Deq (.bool a) (.bool b) = (a = b) := propext ⟨fun h => by cases h; rfl, fun h => .of_eq (by rw [h])⟩
theorem deq_str (a b : ByteArray) : Deq (.str a) (.str b) = (a = b) := propext ⟨fun h => by cases h; rfl, fun h => .of_eq (by rw [h])⟩
theorem deq_refl (x : D) : Deq x x = True := propext ⟨fun _ => trivial, fun _ => .refl x⟩

end Go.VM
