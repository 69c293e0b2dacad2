/- What one operation does to the world, against what it does to the abstract state: operation by operation. -/
import Derived.Test.YtcpdnjehmnbheaaDoorVC
set_option linter.unusedSimpArgs false
set_option linter.unusedVariables false
set_option linter.unusedSectionVars false
namespace Go.VM
open Ops
variable [Ops] [Glb] [Lim]
open Go.RowKit (Below)

variable {P : Program} {T : Tab} {B : Nat} {ι : Nat → Option Nat} {I : Nat → Nat → Prop} {w : World} {H : AHeap}

/-- a run that ends with a value that stands for r, in a state that Q holds of -/
def StepsV (P : Program) (B : Nat) (s : Sem Value) (w : World) (I : Nat → Nat → Prop) (ι : Nat → Option Nat) (H : AHeap) (Q : A → AHeap → Prop) : Prop :=
  ∃ v r w' I' ι' H', s.run P w = .ok v w' ∧ Q r H' ∧ RepA w' I' ι' H' v r ∧ Rel B ι' I' w' H' ∧ Goes w w' I I' ι ι' H H' ∧ Below B w w'

theorem StepsV.pure {s : Sem Value} {Q : A → AHeap → Prop} (r : Rel B ι I w H) {v : Value} {x : A} (h : s.run P w = .ok v w) (hv : RepA w I ι H v x) (hq : Q x H) : StepsV P B s w I ι H Q :=
  ⟨v, x, w, I, ι, H, h, hq, hv, r, .refl _ _ _ _, .refl _ _⟩

theorem rep_int {v : Value} {k : IntKind} {n : Int} (h : RepA w I ι H v (.d (.int k n))) : v = .int k n := by cases h with | d _ _ h => cases h; rfl
theorem rep_bool {v : Value} {b : Bool} (h : RepA w I ι H v (.d (.bool b))) : v = .bool b := by cases h with | d _ _ h => cases h; rfl
theorem rep_str {v : Value} {s : ByteArray} (h : RepA w I ι H v (.d (.str s))) : v = .string s := by cases h with | d _ _ h => cases h; rfl
theorem rep_agg {v : Value} {cs : List A} (h : RepA w I ι H v (.agg cs)) : ∃ vs : List Value, v = .agg vs.toArray ∧ vs.length = cs.length ∧ ∀ k, k < cs.length → RepA w I ι H (vs.getD k undef) (cs.getD k .undef) := by
  cases h with | agg vs _ h1 h2 => exact ⟨vs, rfl, h1, h2⟩
theorem rep_tup {v : Value} {cs : List A} (h : RepA w I ι H v (.tup cs)) : ∃ vs : List Value, v = .tuple vs.toArray ∧ vs.length = cs.length ∧ ∀ k, k < cs.length → RepA w I ι H (vs.getD k undef) (cs.getD k .undef) := by
  cases h with | tup vs _ h1 h2 => exact ⟨vs, rfl, h1, h2⟩
theorem rep_sl {v : Value} {n sz : Nat} {get : Nat → Nat → D} (h : RepA w I ι H v (.d (.sl n sz get))) : ∃ a cap, v = .slice a n cap ∧ n ≤ cap := by
  cases h with | d _ _ h => cases h with
    | sl0 a cap => exact ⟨a, cap, rfl, Nat.zero_le _⟩
    | sl b o _ cap _ _ vals hl => exact ⟨_, cap, rfl, hl⟩

section wbin
theorem Int.bool_eq (x y : Int) : (x == y) = decide (x = y) := by
  by_cases h : x = y <;> simp [h]

theorem equalIn_bool {t : Nat} (hu : ∀ w, (underlying t).run P w = .ok .bool w) (a b : Bool) (w : World) (d : Nat) : (Op.equalIn (d + 1) t (.bool a) (.bool b)).run P w = .ok (a == b) w := by
  simp only [Op.equalIn, Sem.run_bind, hu, Result.andThen_ok]
  rfl

theorem equal_bool {t : Nat} (hu : ∀ w, (underlying t).run P w = .ok .bool w) (a b : Bool) (w : World) : (Op.equal t (.bool a) (.bool b)).run P w = .ok (a == b) w :=
  equalIn_bool hu a b w 9999

theorem wbin_ok (hT : TabOk P T) {t : Nat} {op : BinOp} {x y : A} {vx vy : Value} {Q : A → Prop} (r : Rel B ι I w H) (hx : RepA w I ι H vx x) (hy : RepA w I ι H vy y) (ox oy : Operand)
    (h : wbin T t op x y Q) : StepsV P B (do eqGuard op t ox oy vx vy; binOp op t vx vy) w I ι H (fun a H' => Q a ∧ H' = H) := by
  unfold wbin at h
  split at h
  · -- two integers
    rename_i k a k' b
    obtain rfl := rep_int hx
    obtain rfl := rep_int hy
    have hg : (eqGuard op t ox oy (.int k a) (.int k' b)).run P w = .ok () w := by
      unfold eqGuard
      cases op <;> simp
    split at h
    · obtain ⟨h1, h2⟩ := h
      refine .pure r (v := .int k (shlK k a b)) ?_ (.d _ _ (.int _ _)) ⟨h2, rfl⟩
      have : ¬ b < 0 := by simpa [leP_eq] using h1
      rw [Sem.run_bind, hg]
      simp [binOp, Op.shift, this, shlK_eq]
    · obtain ⟨h1, h2⟩ := h
      refine .pure r (v := .int k (shrK k a b)) ?_ (.d _ _ (.int _ _)) ⟨h2, rfl⟩
      have : ¬ b < 0 := by simpa [leP_eq] using h1
      rw [Sem.run_bind, hg]
      simp [binOp, Op.shift, this, shrK_eq]
    · obtain ⟨hk, h⟩ := h
      have hk : k = k' := by cases k <;> cases k' <;> simp_all [IntKind.same]
      subst hk
      have cmp : ∀ (p q : Prop) [Decidable p], (¬ p → q) → cmpQ p q Q → (binOp op t (.int k a) (.int k b)).run P w = .ok (.bool (decide p)) w → StepsV P B (do eqGuard op t ox oy (.int k a) (.int k b); binOp op t (.int k a) (.int k b)) w I ι H (fun a H' => Q a ∧ H' = H) := by
        intro p q _ hpq hc hrun
        unfold cmpQ at hc
        simp only [Imp_eq] at hc
        by_cases hp : p
        · refine .pure r (v := .bool true) ?_ (.d _ _ (.bool _)) ⟨hc.1 hp, rfl⟩
          rw [Sem.run_bind, hg, Result.andThen_ok, hrun, decide_eq_true hp]
        · refine .pure r (v := .bool false) ?_ (.d _ _ (.bool _)) ⟨hc.2 (hpq hp), rfl⟩
          rw [Sem.run_bind, hg, Result.andThen_ok, hrun, decide_eq_false hp]
      unfold binI at h
      split at h
      all_goals first
        | exact h.elim
        | (refine .pure r ?_ (.d _ _ (.int _ _)) ⟨h, rfl⟩
           rw [Sem.run_bind, hg]
           simp [binOp, Op.intArith, Op.intBits, addK_eq, subK_eq, mulK_eq, bitK_eq]
           done)
        | (obtain ⟨h1, h2⟩ := h
           have hne : ¬ b = 0 := by simpa [neP_eq] using h1
           refine .pure r ?_ (.d _ _ (.int _ _)) ⟨h2, rfl⟩
           rw [Sem.run_bind, hg]
           simp [binOp, Op.intDiv, hne, quoK_eq, remK_eq]
           done)
        | (simp only [eqP_eq, neP_eq, ltP_eq, leP_eq] at h
           exact cmp _ _ (by omega) h (by simp [binOp, Op.intCmp, Int.bool_eq, bne]))
  · rename_i a b
    obtain rfl := rep_str hx
    obtain rfl := rep_str hy
    have hg : (eqGuard op t ox oy (.string a) (.string b)).run P w = .ok () w := by
      unfold eqGuard
      cases op <;> simp
    have cmp : ∀ (p q : Prop) (c : Bool), (c = true → p) → (c = false → q) → cmpQ p q Q → (binOp op t (.string a) (.string b)).run P w = .ok (.bool c) w → StepsV P B (do eqGuard op t ox oy (.string a) (.string b); binOp op t (.string a) (.string b)) w I ι H (fun a H' => Q a ∧ H' = H) := by
      intro p q c h1 h2 hc hrun
      unfold cmpQ at hc
      simp only [Imp_eq] at hc
      cases c with
      | true =>
        refine .pure r (v := .bool true) ?_ (.d _ _ (.bool _)) ⟨hc.1 (h1 rfl), rfl⟩
        rw [Sem.run_bind, hg, Result.andThen_ok, hrun]
      | false =>
        refine .pure r (v := .bool false) ?_ (.d _ _ (.bool _)) ⟨hc.2 (h2 rfl), rfl⟩
        rw [Sem.run_bind, hg, Result.andThen_ok, hrun]
    have heq : (a.toList == b.toList) = decide (a = b) := by
      by_cases hab : a = b
      · subst hab; simp
      · have : a.toList ≠ b.toList := fun h => hab (by
          rw [ByteArray.toList_eq, ByteArray.toList_eq] at h
          cases a; cases b
          simp only at h
          congr
          exact Array.ext' h)
        simp [hab, this]
    unfold binS at h
    split at h
    · obtain ⟨h1, h2, h3⟩ := h
      refine .pure r (v := .string (catS a b)) ?_ (.d _ _ (.str _)) ⟨h3, rfl⟩
      rw [Sem.run_bind, hg]
      simp only [leP_eq, lenS_eq] at h1 h2
      have : ¬ ((a.size + b.size : Nat) : Int) > IntKind.i64.max := by simp [IntKind.max, IntKind.bits, IntKind.signed]; omega
      simp only [Result.andThen_ok, binOp, Op.stringOp, this, if_false, Sem.run_pure, catS_eq]
    · simp only [eqSP_eq, neSP_eq] at h
      exact cmp _ _ (decide (a = b)) (by simp) (by simp) h (by simp only [binOp, Op.stringOp, heq, Sem.run_pure])
    · simp only [eqSP_eq, neSP_eq] at h
      exact cmp _ _ (!decide (a = b)) (by simp) (by simp) h (by simp only [binOp, Op.stringOp, heq, Sem.run_pure])
    · simp only [ltSP_eq, geSP_eq] at h
      exact cmp _ _ _ id id h (by simp only [binOp, Op.stringOp, Sem.run_pure])
    · simp only [ltSP_eq, geSP_eq] at h
      exact cmp _ _ (!Op.bytesLess a.toList b.toList) (by simp) (by simp) h (by simp only [binOp, Op.stringOp, Sem.run_pure])
    · exact h.elim
  · rename_i a b
    obtain rfl := rep_bool hx
    obtain rfl := rep_bool hy
    split at h
    · rename_i z1 z2 z3 hti
      obtain ⟨d, hd, hu⟩ := (hT.ti _ _ hti).underlying
      obtain rfl := kindOf_bool hd
      have hg : (eqGuard op t ox oy (.bool a) (.bool b)).run P w = .ok () w := by
        unfold eqGuard
        cases op <;> simp
      unfold binB at h
      have hsame : Bool.same a b = (a == b) := by cases a <;> cases b <;> rfl
      rw [hsame] at h
      split at h
      all_goals first
        | exact h.elim
        | (refine .pure r ?_ (.d _ _ (.bool _)) ⟨h, rfl⟩
           rw [Sem.run_bind, hg]
           simp only [Result.andThen_ok, binOp, Sem.run_bind, equal_bool hu]
           rfl)
    · exact h.elim
  · rename_i xs ys
    obtain ⟨va, rfl, -, -⟩ := rep_agg hx
    obtain ⟨vb, rfl, -, -⟩ := rep_agg hy
    split at h
    · rename_i e he
      obtain ⟨b, hb, h'⟩ := hT.eq _ _ he xs ys Q h
      obtain ⟨hg, hr⟩ := h' w I ι H _ _ hx hy
      refine .pure r (v := .bool b) ?_ (.d _ _ (.bool _)) ⟨hb, rfl⟩
      rw [Sem.run_bind, hg]
      simp [binOp, hr]
    · rename_i e he
      obtain ⟨b, hb, h'⟩ := hT.eq _ _ he xs ys _ h
      obtain ⟨hg, hr⟩ := h' w I ι H _ _ hx hy
      refine .pure r (v := .bool (!b)) ?_ (.d _ _ (.bool _)) ⟨by cases b <;> exact hb, rfl⟩
      rw [Sem.run_bind, hg]
      simp [binOp, hr]
    · exact h.elim
  · exact h.elim
end wbin

theorem wlen_ok (hT : TabOk P T) {t : Nat} {x : A} {vx : Value} {Q : A → Prop} (r : Rel B ι I w H) (hx : RepA w I ι H vx x) (h : wlen T t x Q) (ty : TypeId) (l : Array TypeId) (hl : l[0]? = some t) (la : Array Value) (hla : la[0]? = some vx) :
    StepsV P B (Builtin.len_ l ty la) w I ι H (fun a H' => Q a ∧ H' = H) := by
  unfold wlen at h
  split at h
  · rename_i hti
    obtain ⟨d, hd, hu⟩ := (hT.ti _ _ hti).underlying
    obtain rfl := kindOf_string hd
    obtain rfl := rep_str hx
    exact .pure r (v := goInt _) (by simp [Builtin.len_, hl, hla, hu, lenS_eq, nI_eq]) (.d _ _ (.int _ _)) ⟨h, rfl⟩
  · rename_i hti
    obtain ⟨d, hd, hu⟩ := (hT.ti _ _ hti).underlying
    obtain rfl := kindOf_slice hd
    obtain ⟨a, cap, rfl, -⟩ := rep_sl hx
    exact .pure r (v := goInt _) (by simp [Builtin.len_, hl, hla, hu, lenS_eq, nI_eq]) (.d _ _ (.int _ _)) ⟨h, rfl⟩
  · rename_i hti
    obtain ⟨d, hd, hu⟩ := (hT.ti _ _ hti).underlying
    obtain rfl := kindOf_slice hd
    cases hx
    exact .pure r (v := goInt 0) (by simp [Builtin.len_, hl, hla, hu]) (.d _ _ (.int _ _)) ⟨h, rfl⟩
  · rename_i hti
    obtain ⟨d, hd, hu⟩ := (hT.ti _ _ hti).underlying
    obtain rfl := kindOf_slice hd
    cases hx with | ref _ _ _ _ _ _ _ hlen =>
    obtain ⟨a, c, rfl⟩ := hlen
    exact .pure r (v := goInt _) (by simp [Builtin.len_, hl, hla, hu, lenS_eq, nI_eq]) (.d _ _ (.int _ _)) ⟨h, rfl⟩
  · exact h.elim
end Go.VM
