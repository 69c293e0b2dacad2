/- Regions that draw the order of their operations. First: a larger postcondition. -/
import Derived.Test.YtcpdnjehmnbheaaDoorVN
set_option linter.unusedSimpArgs false
set_option linter.unusedVariables false
set_option linter.unusedSectionVars false
namespace Go.VM
open Ops
variable [Ops] [Glb] [Lim]

section mono
variable {T : Tab} {t : Nat} {hp : AHeap} {Q Q' : A → Prop} {K K' : A → AHeap → Prop} (hq : ∀ a, Q a → Q' a) (hk : ∀ a h, K a h → K' a h)
include hq
theorem cmpQ_mono {p q : Prop} (h : cmpQ p q Q) : cmpQ p q Q' := by
  unfold cmpQ at *
  simp only [Imp_eq] at *
  exact ⟨fun a => hq _ (h.1 a), fun a => hq _ (h.2 a)⟩
theorem binI_mono {op : BinOp} {k : IntKind} {x y : Int} (h : binI op k x y Q) : binI op k x y Q' := by
  cases op <;> simp only [binI] at h ⊢ <;> first | exact hq _ h | exact cmpQ_mono hq h | exact ⟨h.1, hq _ h.2⟩ | exact h
theorem binS_mono {op : BinOp} {x y : ByteArray} (h : binS op x y Q) : binS op x y Q' := by
  cases op <;> simp only [binS] at h ⊢ <;> first | exact hq _ h | exact cmpQ_mono hq h | exact ⟨h.1, h.2.1, hq _ h.2.2⟩ | exact h
theorem binB_mono {op : BinOp} {x y : Bool} (h : binB op x y Q) : binB op x y Q' := by
  cases op <;> simp only [binB] at h ⊢ <;> first | exact hq _ h | exact h
theorem wbin_mono (he : ∀ e xs ys Q Q', T.eq t = some e → (∀ a, Q a → Q' a) → e xs ys Q → e xs ys Q') {op : BinOp} {x y : A} (h : wbin T t op x y Q) : wbin T t op x y Q' := by
  unfold wbin at h ⊢
  split at h
  · split at h
    · exact ⟨h.1, hq _ h.2⟩
    · exact ⟨h.1, hq _ h.2⟩
    · exact ⟨h.1, binI_mono hq h.2⟩
  · exact binS_mono hq h
  · split at h
    · exact binB_mono hq h
    · exact h.elim
  · split at h
    · rename_i e heq; exact he _ _ _ _ _ heq hq h
    · rename_i e heq
      refine he _ _ _ _ _ heq ?_ h
      intro a
      split
      · split <;> exact hq _
      · exact id
    · exact h.elim
  · exact h.elim
theorem wload_mono {p : A} (h : wload T t p hp Q) : wload T t p hp Q' := by
  unfold wload at h ⊢
  split at h
  · exact h
  · split at h
    · split at h
      · exact ⟨h.1, h.2.1, hq _ h.2.2⟩
      · exact h.elim
    · split at h
      · exact ⟨h.1, h.2.1, h.2.2.1, h.2.2.2.1, hq _ h.2.2.2.2⟩
      · exact h.elim
    · exact ⟨h.1, h.2.1, hq _ h.2.2⟩
    · exact h.elim
theorem wlen_mono {x : A} (h : wlen T t x Q) : wlen T t x Q' := by
  unfold wlen at h ⊢
  split at h <;> first | exact hq _ h | exact h
theorem windexAddr_mono {x i : A} (h : windexAddr T t x i hp Q) : windexAddr T t x i hp Q' := by
  unfold windexAddr at h ⊢
  split at h
  · split at h
    · split at h
      · exact ⟨h.1, h.2.1, h.2.2.1, hq _ h.2.2.2⟩
      · split at h
        · exact ⟨h.1, h.2.1, h.2.2.1, h.2.2.2.1, h.2.2.2.2.1, hq _ h.2.2.2.2.2⟩
        · exact h.elim
      · exact h.elim
    · exact h.elim
  · exact h.elim
theorem windex_mono {x i : A} (h : windex T t x i Q) : windex T t x i Q' := by
  unfold windex at h ⊢
  split at h
  · split at h
    · exact ⟨h.1, h.2.1, hq _ h.2.2⟩
    · exact h.elim
  · split at h
    · obtain ⟨h1, h2, h⟩ := h
      refine ⟨h1, h2, ?_⟩
      split at h
      · obtain ⟨i, h3, h4, h5, h6⟩ := h; exact ⟨i, h3, h4, h5, hq _ h6⟩
      · exact h.elim
    · exact h.elim
  · exact h.elim
theorem wfieldAddr_mono {f : Nat} {x : A} (h : wfieldAddr T t f x Q) : wfieldAddr T t f x Q' := by
  unfold wfieldAddr at h ⊢
  split at h
  · refine ⟨h.1, ?_⟩
    have h := h.2
    split at h <;> first | exact hq _ h | exact h
  · exact h
theorem wfield_mono {f : Nat} {x : A} (h : wfield T t f x Q) : wfield T t f x Q' := by
  unfold wfield at h ⊢
  split at h
  · exact ⟨h.1, h.2.1, hq _ h.2.2⟩
  · exact h
theorem wbuild_mono {parts : List (Nat × A)} (h : wbuild T t parts Q) : wbuild T t parts Q' := by
  unfold wbuild at h ⊢
  split at h
  · refine ⟨h.1, ?_⟩
    have h := h.2
    split at h <;> first | exact hq _ h | exact h
  · split at h
    · split at h <;> first | exact hq _ h | exact h
    · exact h
  · exact h
theorem wmax_mono {x y : A} (h : wmax x y Q) : wmax x y Q' := by
  unfold wmax at h ⊢
  split at h <;> first | exact hq _ h | exact h
theorem wmin_mono {x y : A} (h : wmin x y Q) : wmin x y Q' := by
  unfold wmin at h ⊢
  split at h <;> first | exact hq _ h | exact h
theorem wconv_mono {s d : Nat} {x : A} (h : wconv T s d x Q) : wconv T s d x Q' := by
  unfold wconv at h ⊢
  split at h <;> first | exact hq _ h | exact h
theorem wun_mono {op : UnOp} {x : A} (h : wun op x Q) : wun op x Q' := by
  unfold wun at h ⊢
  split at h <;> first | exact hq _ h | exact h
theorem wnil_mono {x : A} (h : wnil x Q) : wnil x Q' := by
  unfold wnil at h ⊢
  split at h <;> first | exact hq _ h | exact h
omit hq
include hk
theorem wdata_mono {v : A} {K K' : D → AHeap → Prop} (hk : ∀ a h, K a h → K' a h) (h : wdata v hp K) : wdata v hp K' := by
  unfold wdata at h ⊢
  split at h
  · exact hk _ _ h
  · exact hk _ _ h
  · split at h
    · exact ⟨h.1, h.2.1, hk _ _ h.2.2⟩
    · exact h
  · exact h
omit hk
theorem wdatas_mono : ∀ (l : List A) {hp : AHeap} {K K' : List D → AHeap → Prop} (hk : ∀ a h, K a h → K' a h) (h : wdatas l hp K), wdatas l hp K'
  | [], hp, K, K', hk, h => hk _ _ h
  | v :: r, hp, K, K', hk, h => wdata_mono (K := fun _ _ => True) (K' := fun _ _ => True) (fun _ _ h => h) (fun a h' hh => wdatas_mono r (fun _ _ h => hk _ _ h) hh) h
include hk
theorem wslice_mono {x : A} {lo hi : Option A} (h : wslice T t x lo hi hp K) : wslice T t x lo hi hp K' := by
  unfold wslice at h ⊢
  dsimp only at h ⊢
  split at h
  · exact h
  · split at h
    · split at h
      · split at h
        · exact ⟨h.1, h.2.1, hk _ _ h.2.2⟩
        · exact ⟨h.1, h.2.1, h.2.2.1, hk _ _ h.2.2.2⟩
        · exact h
      · exact h
    · split at h
      · refine ⟨h.1, ?_⟩
        have h := h.2
        split at h
        · exact ⟨h.1, h.2.1, hk _ _ h.2.2⟩
        · exact ⟨h.1, h.2.1, h.2.2.1, hk _ _ h.2.2.2⟩
        · exact h
      · exact h
    · split at h
      · split at h
        · refine ⟨h.1, h.2.1, h.2.2.1, ?_⟩
          have h := h.2.2.2
          split at h
          · exact ⟨h.1, h.2.1, hk _ _ h.2.2⟩
          · exact ⟨h.1, h.2.1, h.2.2.1, hk _ _ h.2.2.2⟩
          · exact h
        · exact h
      · exact h
    · exact h
theorem wbuildSlice_mono {len : Nat} {parts : List (Nat × A)} (h : wbuildSlice T t len parts hp K) : wbuildSlice T t len parts hp K' := by
  unfold wbuildSlice at h ⊢
  split at h
  · split at h
    · refine ⟨h.1, h.2.1, ?_⟩
      have h := h.2.2
      split at h
      · exact wdatas_mono _ (fun _ _ h => hk _ _ h) h
      · exact h
    · exact h
  · exact h
theorem wmake_mono {n c : A} (h : wmake T t n c hp K) : wmake T t n c hp K' := by
  unfold wmake at h ⊢
  split at h
  · split at h
    · exact ⟨h.1, h.2.1, h.2.2.1, h.2.2.2.1, h.2.2.2.2.1, wdatas_mono _ (fun _ _ h => hk _ _ h) h.2.2.2.2.2⟩
    · exact h
  · exact h
omit hk
theorem wsrc_mono {x : A} {K K' : Nat → (Nat → Nat → D) → Nat → AHeap → Prop} (hk : ∀ a b c h, K a b c h → K' a b c h) (h : wsrc x hp K) : wsrc x hp K' := by
  unfold wsrc at h ⊢
  split at h
  · exact hk _ _ _ _ h
  · exact hk _ _ _ _ h
  · exact hk _ _ _ _ h
  · split at h
    · exact ⟨h.1, h.2.1, hk _ _ _ _ h.2.2⟩
    · exact h
  · exact h
include hk
theorem wappend_mono {t2 : Nat} {x y : A} (h : wappend T t t2 x y hp K) : wappend T t t2 x y hp K' := by
  unfold wappend at h ⊢
  split at h
  · split at h
    · refine ⟨h.1, h.2.1, h.2.2.1, wsrc_mono ?_ h.2.2.2⟩
      intro m g sz hp h
      refine ⟨h.1, ?_⟩
      have h := h.2
      split at h
      · exact ⟨h.1, hk _ _ h.2⟩
      · split at h
        · exact ⟨h.1, h.2.1, h.2.2.1, h.2.2.2.1, h.2.2.2.2.1, h.2.2.2.2.2.1, hk _ _ h.2.2.2.2.2.2⟩
        · exact h
      · exact h
    · exact h
  · exact h
theorem wnext_mono {x : A} (h : wnext x hp K) : wnext x hp K' := by
  unfold wnext at h ⊢
  split at h
  · split at h
    · simp only [Imp_eq] at h ⊢
      exact ⟨fun a => hk _ _ (h.1 a), fun a => hk _ _ (h.2 a)⟩
    · exact h
  · exact h
omit hk
theorem wstore_mono {p v : A} {K K' : AHeap → Prop} (hk : ∀ h, K h → K' h) (h : wstore T t p v hp K) : wstore T t p v hp K' := by
  unfold wstore at h ⊢
  split at h
  · exact h
  · refine ⟨h.1, h.2.1, ?_⟩
    have h := h.2.2
    split at h
    · split at h
      · exact ⟨h.1, hk _ h.2⟩
      · exact h
    · refine wdatas_mono _ ?_ h
      intro xs hp h
      split at h
      · exact ⟨h.1, h.2.1, h.2.2.1, h.2.2.2.1, hk _ h.2.2.2.2⟩
      · exact h
    · exact h
include hk
theorem wprim_mono (he : ∀ t e xs ys Q Q', T.eq t = some e → (∀ a, Q a → Q' a) → e xs ys Q → e xs ys Q') {o : Oper} {tm : List A} (h : wprim T o tm hp K) : wprim T o tm hp K' := by
  have hq : ∀ a, K a hp → K' a hp := fun a => hk a hp
  unfold wprim at h ⊢
  split at h
  case h_24 =>
    split at h
    · split at h
      · exact wlen_mono hq h
      · exact h
    · split at h
      · exact wmax_mono hq h
      · exact h
    · split at h
      · exact wmin_mono hq h
      · exact h
    · split at h
      · exact wappend_mono hk h
      · exact h
    · exact h
  all_goals first
    | exact hk _ _ h
    | exact ⟨h.1, hk _ _ h.2⟩
    | exact wbuild_mono hq h
    | exact wbuildSlice_mono hk h
    | exact wload_mono hq h
    | exact wstore_mono (fun hp' => hk _ hp') h
    | exact wnil_mono hq h
    | exact wbin_mono hq (fun e xs ys Q Q' => he _ e xs ys Q Q') h
    | exact wun_mono hq h
    | exact wconv_mono hq h
    | exact wmake_mono hk h
    | exact wslice_mono hk h
    | exact wfieldAddr_mono hq h
    | exact wfield_mono hq h
    | exact windexAddr_mono hq h
    | exact windex_mono hq h
    | exact wnext_mono hk h
    | exact h.elim
    | (split at h <;> (try split at h) <;> first | exact hk _ _ h | exact ⟨h.1, hk _ _ h.2⟩ | exact h)
end mono

/-! ### Operations that yield one value, whatever comes after -/
/-- 1: a value of the slots alone; 2: a value of the slots and of what the heap holds; 0: anything else -/
def cls (T : Tab) : Op → Nat
  | .move _ | .assign _ | .pick .. | .nilCheck _ | .unOp .. | .convert .. | .fieldAddr .. | .field .. | .index .. | .extract .. | .build .. => 1
  | .makeFunc (.func _) .. => 1
  | .binOp _ t .. => match T.eq t with
    | some _ => 0
    | none => 1
  | .call ⟨.builtin .len, _, _⟩ | .call ⟨.builtin .max, _, _⟩ | .call ⟨.builtin .min, _, _⟩ => 1
  | .load .. | .indexAddr .. => 2
  | .slice t _ _ _ none => match T.ti t with
    | some ⟨.string, _, _, _⟩ => 1
    | _ => 0
  | _ => 0

/-- one value -/
def One (F : (A → Prop) → Prop) : Prop := ∀ Q, F Q → ∃ v, Q v ∧ ∀ Q', Q' v → F Q'

section one
variable {T : Tab} {t : Nat} {hp : AHeap}
theorem one_cmpQ {p q : Prop} (h : p ∨ q) (hn : p → ¬ q) : One (cmpQ p q) := by
  intro Q hq
  unfold cmpQ at *
  simp only [Imp_eq] at *
  rcases h with h | h
  · exact ⟨_, hq.1 h, fun Q' h' => ⟨fun _ => h', fun h2 => absurd h2 (hn h)⟩⟩
  · exact ⟨_, hq.2 h, fun Q' h' => ⟨fun h2 => absurd h (hn h2), fun _ => h'⟩⟩
theorem one_here (v : A) : One (fun Q => Q v) := fun Q h => ⟨v, h, fun _ h => h⟩
theorem one_no : One (fun _ => False) := fun Q h => h.elim
theorem One.and {F : (A → Prop) → Prop} {p : Prop} (h : One F) : One (fun Q => p ∧ F Q) := fun Q hq => by
  obtain ⟨v, h1, h2⟩ := h Q hq.2
  exact ⟨v, h1, fun Q' h' => ⟨hq.1, h2 Q' h'⟩⟩
theorem One.ex {α : Type} {F : α → (A → Prop) → Prop} (h : ∀ i, One (F i)) : One (fun Q => ∃ i, F i Q) := fun Q hq => by
  obtain ⟨i, hq⟩ := hq
  obtain ⟨v, h1, h2⟩ := h i Q hq
  exact ⟨v, h1, fun Q' h' => ⟨i, h2 Q' h'⟩⟩

theorem one_binI {op : BinOp} {k : IntKind} {x y : Int} : One (binI op k x y) := by
  intro Q hQ
  cases op <;> simp only [binI] at hQ ⊢ <;> first
    | exact one_here _ Q hQ
    | exact (one_here _).and Q hQ
    | exact hQ.elim
    | (refine one_cmpQ ?_ ?_ Q hQ <;> simp only [eqP_eq, neP_eq, ltP_eq, leP_eq] <;> omega)
theorem one_binS {op : BinOp} {x y : ByteArray} : One (binS op x y) := by
  intro Q hQ
  cases op <;> simp only [binS] at hQ ⊢ <;> first
    | exact one_here _ Q hQ
    | exact ((one_here _).and).and Q hQ
    | exact hQ.elim
    | (refine one_cmpQ ?_ ?_ Q hQ <;> simp only [eqSP_eq, neSP_eq, ltSP_eq, geSP_eq] <;> first | (cases Op.bytesLess x.toList y.toList <;> simp; done) | (by_cases e : x = y <;> simp [e]))
theorem one_binB {op : BinOp} {x y : Bool} : One (binB op x y) := by
  intro Q hQ
  cases op <;> simp only [binB] at hQ ⊢ <;> first | exact one_here _ Q hQ | exact hQ.elim
theorem one_wbin {op : BinOp} {x y : A} (he : T.eq t = none) : One (wbin T t op x y) := by
  intro Q hQ
  unfold wbin at hQ ⊢
  split at hQ
  · split at hQ
    · exact One.and (one_here _) Q hQ
    · exact One.and (one_here _) Q hQ
    · rename_i h1 h2
      have := One.and (p := IntKind.same _ _ = true) one_binI Q hQ
      simpa [h1, h2] using this
  · exact one_binS Q hQ
  · split at hQ
    · exact one_binB Q hQ
    · exact hQ.elim
  · simp [he] at hQ
  · exact hQ.elim
theorem one_wload {p : A} : One (wload T t p hp) := by
  intro Q h
  unfold wload at h ⊢
  split at h
  · exact h.elim
  · split at h
    · split at h
      · exact ((one_here _).and).and Q h
      · exact h.elim
    · split at h
      · exact ((((one_here _).and).and).and).and Q h
      · exact h.elim
    · exact ((one_here _).and).and Q h
    · exact h.elim
theorem one_wlen {x : A} : One (wlen T t x) := by
  intro Q h
  unfold wlen at h ⊢
  split at h <;> first | exact one_here _ Q h | exact h.elim
theorem one_windexAddr {x i : A} : One (windexAddr T t x i hp) := by
  intro Q h
  unfold windexAddr at h ⊢
  split at h
  · split at h
    · split at h
      · exact (((one_here _).and).and).and Q h
      · split at h
        · exact (((((one_here _).and).and).and).and).and Q h
        · exact h.elim
      · exact h.elim
    · exact h.elim
  · exact h.elim
theorem one_windex {x i : A} : One (windex T t x i) := by
  intro Q h
  unfold windex at h ⊢
  split at h
  · split at h
    · exact ((one_here _).and).and Q h
    · exact h.elim
  · split at h
    · split at h
      · refine ((One.ex fun i => ?_).and).and Q h
        exact ((one_here _).and.and).and
      · exact h.2.2.elim
    · exact h.elim
  · exact h.elim
theorem one_wfieldAddr {f : Nat} {x : A} : One (wfieldAddr T t f x) := by
  intro Q h
  unfold wfieldAddr at h ⊢
  split at h
  · split at h
    · exact (one_here _).and Q h
    · exact (one_here _).and Q h
    · exact (one_here _).and Q h
    · exact h.2.elim
  · exact h.elim
theorem one_wfield {f : Nat} {x : A} : One (wfield T t f x) := by
  intro Q h
  unfold wfield at h ⊢
  split at h
  · exact ((one_here _).and).and Q h
  · exact h.elim
theorem one_wbuild {parts : List (Nat × A)} : One (wbuild T t parts) := by
  intro Q h
  unfold wbuild at h ⊢
  split at h
  · split at h
    · exact (one_here _).and Q h
    · exact h.2.elim
  · split at h
    · split at h
      · exact one_here _ Q h
      · exact h.elim
    · exact h.elim
  · exact h.elim
theorem one_wmax {x y : A} : One (wmax x y) := by
  intro Q h
  unfold wmax at h ⊢
  split at h <;> first | exact one_here _ Q h | exact h.elim
theorem one_wmin {x y : A} : One (wmin x y) := by
  intro Q h
  unfold wmin at h ⊢
  split at h <;> first | exact one_here _ Q h | exact h.elim
theorem one_wconv {s d : Nat} {x : A} : One (wconv T s d x) := by
  intro Q h
  unfold wconv at h ⊢
  split at h <;> first | exact one_here _ Q h | exact h.elim
theorem one_wun {op : UnOp} {x : A} : One (wun op x) := by
  intro Q h
  unfold wun at h ⊢
  split at h <;> first | exact one_here _ Q h | exact h.elim
theorem one_wnil {x : A} : One (wnil x) := by
  intro Q h
  unfold wnil at h ⊢
  split at h <;> first | exact one_here _ Q h | exact h.elim

theorem slice_string {t : Nat} {x : A} {lo hi : Option A} {K : A → AHeap → Prop} {n b : Nat} {z : List A} (ht : T.ti t = some ⟨.string, n, b, z⟩) (h : wslice T t x lo hi hp K) : ∃ v, K v hp ∧ ∀ hp' K', K' v hp' → wslice T t x lo hi hp' K' := by
  unfold wslice at h ⊢
  simp only [ht] at h ⊢
  split at h
  · exact h.elim
  · rename_i hl
    split at h
    · split at h
      · exact ⟨_, h.2.2, fun _ _ hk => ⟨h.1, h.2.1, hk⟩⟩
      · exact ⟨_, h.2.2.2, fun _ _ hk => ⟨h.1, h.2.1, h.2.2.1, hk⟩⟩
      · exact h.elim
    · exact h.elim
    · split at h
      · exact h.elim
      · exact h.elim
    · exact h.elim

theorem one_of {F : (A → Prop) → Prop} (h : One F) {K : A → AHeap → Prop} (hf : F (fun a => K a hp)) : ∃ v, K v hp ∧ ∀ hp' K', K' v hp' → F (fun a => (K' : A → AHeap → Prop) a hp') :=
  let ⟨v, h1, h2⟩ := h _ hf
  ⟨v, h1, fun hp' K' hk => h2 _ hk⟩

theorem one_wprim {o : Oper} {tm : List A} {K : A → AHeap → Prop} (hc : cls T o.op ≠ 0) (h : wprim T o tm hp K) :
    ∃ v, K v hp ∧ (∀ K', K' v hp → wprim T o tm hp K') ∧ (cls T o.op = 1 → ∀ hp' K', K' v hp' → wprim T o tm hp' K') := by
  have fin1 : ∀ {F : AHeap → (A → AHeap → Prop) → Prop}, (∃ v, K v hp ∧ ∀ hp' K', K' v hp' → F hp' K') → ∃ v, K v hp ∧ (∀ K', K' v hp → F hp K') ∧ (cls T o.op = 1 → ∀ hp' K', K' v hp' → F hp' K') :=
    fun ⟨v, h1, h2⟩ => ⟨v, h1, fun K' hk => h2 _ K' hk, fun _ => h2⟩
  unfold wprim at h ⊢
  split at h
  case h_24 _ c hop =>
    split at h
    · split at h
      · exact fin1 (one_of one_wlen h)
      · exact h.elim
    · split at h
      · exact fin1 (one_of one_wmax h)
      · exact h.elim
    · split at h
      · exact fin1 (one_of one_wmin h)
      · exact h.elim
    · rename_i hcal
      obtain ⟨cal, as, ts⟩ := c
      simp only at hcal
      subst hcal
      exact absurd (by rw [hop]; rfl) hc
    · exact h.elim
  case h_11 _ op t x y yt hop =>
    cases he : T.eq t with
    | some e => exact absurd (by rw [hop]; simp [cls, he]) hc
    | none => exact fin1 (one_of (one_wbin he) h)
  case h_8 _ t x hop =>
    obtain ⟨v, h1, h2⟩ := one_of one_wload h
    exact ⟨v, h1, fun K' hk => h2 hp K' hk, fun h => by rw [hop] at h; exact absurd h (by simp [cls])⟩
  case h_19 _ t x i hop =>
    obtain ⟨v, h1, h2⟩ := one_of one_windexAddr h
    exact ⟨v, h1, fun K' hk => h2 hp K' hk, fun h => by rw [hop] at h; exact absurd h (by simp [cls])⟩
  case h_16 _ t x lo hi hop =>
    cases ht : T.ti t with
    | none => exact absurd (by rw [hop]; simp [cls, ht]) hc
    | some ti =>
      obtain ⟨kd, n, b, z⟩ := ti
      cases kd with
      | string => exact fin1 (slice_string ht h)
      | _ => exact absurd (by rw [hop]; simp [cls, ht]) hc
  case h_25 => exact h.elim
  all_goals rename_i hop
  all_goals first
    | exact absurd (by rw [hop]; rfl) hc
    | exact fin1 ⟨_, h, fun _ _ h => h⟩
    | exact fin1 (one_of one_wbuild h)
    | exact fin1 (one_of one_wfieldAddr h)
    | exact fin1 (one_of one_wfield h)
    | exact fin1 (one_of one_windex h)
    | exact fin1 (one_of one_wun h)
    | exact fin1 (one_of one_wconv h)
    | exact fin1 (one_of one_wnil h)
    | (split at h <;> (try split at h) <;> first | exact fin1 ⟨_, h, fun _ _ h => h⟩ | exact ⟨_, h.2, fun _ h' => ⟨h.1, h'⟩, fun _ _ _ h' => ⟨h.1, h'⟩⟩ | exact h.elim)
end one

/-! ### One operation, calls and guards included -/
/-- a call of a function of the program -/
inductive CallW (P : Unit → Program) (K : FuncId) (args : List A) (H : AHeap) (R : A → AHeap → Prop) : Prop
  | mk (h : VCalls (P ()) K args H R)
theorem CallW_eq (P : Unit → Program) (K : FuncId) (args : List A) (H : AHeap) (R : A → AHeap → Prop) : CallW P K args H R = VCalls (P ()) K args H R := propext ⟨fun ⟨h⟩ => h, .mk⟩

def wopR (P : Unit → Program) (T : Unit → Tab) (o : Oper) (tm : List A) (hp : AHeap) (K : A → AHeap → Prop) : Prop :=
  match o.op with
  | .call ⟨.value f, args, _⟩ =>
    match ev tm f with
    | .clo k first caps => (T ()).fn k = true ∧ CallW P k (first ++ args.toList.map (ev tm) ++ caps) hp K
    | _ => False
  | _ => wprim (T ()) o tm hp K

def gdst (all : List Oper) (j : Nat) : Option Nat :=
  match getL (all.map some) j none with
  | some o => o.dst
  | none => none

/-- a guard's yield -/
def yieldA (all : List Oper) (j : Nat) (tm : List A) : Option (Option Bool) :=
  match gdst all j with
  | some d => match getL tm d .undef with
    | .d (.bool b) => some (some b)
    | .tup _ => some none
    | _ => none
  | none => none

def wopG (P : Unit → Program) (T : Unit → Tab) (all : List Oper) (o : Oper) (tm : List A) (hp : AHeap) (K : A → AHeap → Prop) : Prop :=
  match o.guard with
  | none => wopR P T o tm hp K
  | some (j, want) =>
    match yieldA all j tm with
    | some (some b) => (match Bool.same b want with
      | true => wopR P T o tm hp K
      | false => K (.tup []) hp)
    | some none => K (.tup []) hp
    | none => False

/-- what an operation reads -/
def opnds : Op → List Operand
  | .move x | .assign x | .box _ x | .load _ x | .nilCheck x | .unOp _ _ x | .convert _ _ x | .fieldAddr _ x _ | .field _ x _ | .range _ x | .next x _ | .extract x _ => [x]
  | .pick a b c => [a, b, c]
  | .build _ ps | .buildSlice _ _ ps => ps.toList.map (·.2)
  | .store _ x y | .binOp _ _ x y _ | .makeSlice _ x y | .indexAddr _ x y | .index _ x y => [x, y]
  | .makeFunc _ a b => a.toList ++ b.toList
  | .slice _ x lo hi _ => x :: (lo.toList ++ hi.toList)
  | .call ⟨.value f, args, _⟩ => f :: args.toList
  | .call ⟨_, args, _⟩ => args.toList
  | _ => []

def hasT : List Operand → Nat → Bool
  | [], _ => false
  | .tmp t :: r, d => (match Nat.beq t d with
    | true => true
    | false => hasT r d)
  | _ :: r, d => hasT r d

def isD : Option Nat → Nat → Bool
  | some t, d => Nat.beq t d
  | none, _ => false

def looksAt (all : List Oper) (o : Oper) (d : Nat) : Bool :=
  match hasT (opnds o.op) d with
  | true => true
  | false => match o.guard with
    | some (j, _) => isD (gdst all j) d
    | none => false

theorem hasT_mem : ∀ {l : List Operand} {d : Nat}, hasT l d = false → ∀ x ∈ l, x ≠ .tmp d
  | [], _, _, x, hx => by cases hx
  | y :: r, d, h, x, hx => by
    cases y with
    | tmp t =>
      simp only [hasT] at h
      split at h
      · cases h
      · rename_i hb
        cases hx with
        | head => intro e; cases e; rw [Nat.beq_refl] at hb; cases hb
        | tail _ hx => exact hasT_mem h x hx
    | _ => cases hx with
      | head => intro e; cases e
      | tail _ hx => exact hasT_mem (by simpa [hasT] using h) x hx

theorem ev_setL {tm : List A} {d : Nat} {v : A} {x : Operand} (h : x ≠ .tmp d) : ev (setL tm d v) x = ev tm x := by
  cases x with
  | tmp t =>
    have hne : d ≠ t := fun e => h (by rw [e])
    simp only [ev, getL_eq, setL_eq]
    simp [List.getD_eq_getElem?_getD, List.getElem?_set_ne hne]
  | _ => rfl

theorem wopR_congr {P : Unit → Program} {T : Unit → Tab} {o : Oper} {tm tm' : List A} {hp : AHeap} {K : A → AHeap → Prop} (h : ∀ x ∈ opnds o.op, ev tm x = ev tm' x) : wopR P T o tm hp K = wopR P T o tm' hp K := by
  have maps : ∀ l : List Operand, (∀ x ∈ l, ev tm x = ev tm' x) → l.map (ev tm) = l.map (ev tm') := fun l hl => List.map_congr_left hl
  have pairs : ∀ ps : List (Nat × Operand), (∀ x ∈ ps.map (·.2), ev tm x = ev tm' x) → (ps.map fun (i, x) => (i, ev tm x)) = (ps.map fun (i, x) => (i, ev tm' x)) := fun ps hp =>
    List.map_congr_left fun p hm => by
      obtain ⟨i, x⟩ := p
      simp only [hp x (List.mem_map.2 ⟨(i, x), hm, rfl⟩)]
  obtain ⟨dst, op, type, pos, after, guard⟩ := o
  cases op
  case call c =>
    obtain ⟨cal, args, ts⟩ := c
    cases cal with
    | value f =>
      simp only [opnds] at h
      simp only [wopR]
      rw [h f (by simp), maps args.toList fun x hx => h x (by simp [hx])]
    | builtin b =>
      simp only [opnds] at h
      simp only [wopR, wprim]
      cases b <;> first
        | rfl
        | (rcases args with ⟨_ | ⟨x, _ | ⟨y, _ | ⟨z, r⟩⟩⟩⟩ <;> rcases ts with ⟨_ | ⟨t1, _ | ⟨t2, _ | ⟨t3, r3⟩⟩⟩⟩ <;> simp_all)
    | _ => rfl
  case build t ps => simp only [opnds] at h; simp only [wopR, wprim]; rw [pairs _ h]
  case buildSlice t n ps => simp only [opnds] at h; simp only [wopR, wprim]; rw [pairs _ h]
  case makeFunc f a b =>
    simp only [opnds] at h
    cases f <;> simp only [wopR, wprim]
    rw [maps _ fun x hx => h x (by simp only [List.mem_append]; exact .inl hx), maps _ fun x hx => h x (by simp only [List.mem_append]; exact .inr hx)]
  case slice t x lo hi mx => cases lo <;> cases hi <;> cases mx <;> simp_all [opnds, wopR, wprim]
  case next x b => cases b <;> simp_all [opnds, wopR, wprim]
  all_goals first
    | rfl
    | (simp_all [opnds, wopR, wprim]; done)

theorem put_put {tm : List A} {x y : Option Nat} {v u : A} (h : ∀ d, x = some d → y ≠ some d) : put (put tm x v) y u = put (put tm y u) x v := by
  cases x with
  | none => rfl
  | some d => cases y with
    | none => rfl
    | some e =>
      have hne : d ≠ e := fun he => h d rfl (by rw [he])
      simp only [put, setL_eq]
      exact List.set_comm _ _ hne

def readsNot (all : List Oper) (o : Oper) (x : Option Nat) : Prop := ∀ d, x = some d → looksAt all o d = false

theorem wopG_put {P : Unit → Program} {T : Unit → Tab} {all : List Oper} {o : Oper} {tm : List A} {hp : AHeap} {K : A → AHeap → Prop} {x : Option Nat} {v : A} (h : readsNot all o x) : wopG P T all o (put tm x v) hp K = wopG P T all o tm hp K := by
  cases x with
  | none => rfl
  | some d =>
    have h := h d rfl
    unfold looksAt at h
    split at h
    · cases h
    · rename_i h1
      have e1 : wopR P T o (put tm (some d) v) hp K = wopR P T o tm hp K := wopR_congr fun x hx => ev_setL (hasT_mem h1 x hx)
      unfold wopG
      split at h
      · rename_i j want hg
        have e2 : yieldA all j (put tm (some d) v) = yieldA all j tm := by
          unfold yieldA
          cases hd : gdst all j with
          | none => rfl
          | some t =>
            have hne : d ≠ t := fun e => by
              rw [hd, e] at h
              simp [isD] at h
            simp only [put, getL_eq, setL_eq]
            simp [List.getD_eq_getElem?_getD, List.getElem?_set_ne hne]
        simp only [hg, e2, e1]
      · rename_i hg
        simp only [hg, e1]

theorem wopG_mono {P : Unit → Program} {T : Unit → Tab} (he : ∀ t e xs ys Q Q', (T ()).eq t = some e → (∀ a, Q a → Q' a) → e xs ys Q → e xs ys Q') {all : List Oper} {o : Oper} {tm : List A} {hp : AHeap} {K K' : A → AHeap → Prop} (hk : ∀ a h, K a h → K' a h) (h : wopG P T all o tm hp K) : wopG P T all o tm hp K' := by
  have hR : wopR P T o tm hp K → wopR P T o tm hp K' := fun h => by
    unfold wopR at h ⊢
    split at h
    · split at h
      · rw [CallW_eq] at h ⊢
        exact ⟨h.1, h.2.mono hk⟩
      · exact h
    · exact wprim_mono hk he h
  unfold wopG at h ⊢
  split at h
  · exact hR h
  · split at h
    · split at h
      · exact hR h
      · exact hk _ _ h
    · exact hk _ _ h
    · exact h

theorem one_wopG {P : Unit → Program} {T : Unit → Tab} {all : List Oper} {o : Oper} {tm : List A} {hp : AHeap} {K : A → AHeap → Prop} (hc : cls (T ()) o.op ≠ 0) (h : wopG P T all o tm hp K) :
    ∃ v, K v hp ∧ (∀ K', K' v hp → wopG P T all o tm hp K') ∧ (cls (T ()) o.op = 1 → ∀ hp' K', K' v hp' → wopG P T all o tm hp' K') := by
  have hR : ∀ hp' K', wopR P T o tm hp' K' = wprim (T ()) o tm hp' K' := fun hp' K' => by
    unfold wopR
    split
    · rename_i heq
      rw [heq] at hc
      exact absurd rfl hc
    · rfl
  unfold wopG at h ⊢
  split at h
  · simp only [hR] at h ⊢
    exact one_wprim hc h
  · split at h
    · split at h
      · simp only [hR] at h ⊢
        exact one_wprim hc h
      · exact ⟨_, h, fun _ h => h, fun _ _ _ h => h⟩
    · exact ⟨_, h, fun _ h => h, fun _ _ _ h => h⟩
    · exact h.elim
end Go.VM
