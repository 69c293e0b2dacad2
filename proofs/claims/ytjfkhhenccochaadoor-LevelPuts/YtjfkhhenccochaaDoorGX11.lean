/- Part of the proof: M10, LB10, LA8. -/
import Derived.Test.YtjfkhhenccochaaDoorGV6
import Derived.Test.YtjfkhhenccochaaDoorGX10
import Derived.Test.YtjfkhhenccochaaDoorGX8
/- The value of a level with levels put in. -/
namespace Go.VM
set_option linter.unusedVariables false
set_option linter.unusedSimpArgs false
/-- the value of a number and of parts -/
def evL (x : Int → Int) (c : Int) : List Pt → Int
  | [] => c
  | p :: l => max (x p.1 + p.2) (evL x c l)
theorem evL_le {x : Int → Int} {c b : Int} : ∀ {l : List Pt}, evL x c l ≤ b ↔ c ≤ b ∧ ∀ p, p ∈ l → x p.1 + p.2 ≤ b
  | [] => by simp [evL]
  | p :: l => by
    unfold evL
    rw [Int.max_le, evL_le (l := l)]
    simp only [List.mem_cons]
    constructor
    · rintro ⟨h1, h2, h3⟩
      refine ⟨h2, fun q hq => ?_⟩
      rcases hq with rfl | hq
      · exact h1
      · exact h3 q hq
    · rintro ⟨h1, h2⟩
      exact ⟨h2 p (.inl rfl), h1, fun q hq => h2 q (.inr hq)⟩
theorem evL_ext {x y : Int → Int} {c d : Int} {l r : List Pt} (h : ∀ b, evL x c l ≤ b ↔ evL y d r ≤ b) : evL x c l = evL y d r :=
  Int.le_antisymm ((h _).2 (Int.le_refl _)) ((h _).1 (Int.le_refl _))
theorem evL_snoc (x : Int → Int) (c : Int) (l : List Pt) (p : Pt) : evL x c (l ++ [p]) = max (evL x c l) (x p.1 + p.2) := by
  induction l with
  | nil => simp only [List.nil_append, evL]; omega
  | cons q l ih => simp only [List.cons_append, evL, ih]; omega
theorem evV_L (V P : Nat → Int) (x : Int → Int) (c : Int) : ∀ n, evV V P x c n = evL x c (lst V P n)
  | 0 => rfl
  | n + 1 => by rw [evV, lst, evL_snoc, evV_L V P x c n]
theorem evL_ge {x : Int → Int} {c : Int} (l : List Pt) : c ≤ evL x c l := (evL_le.1 (Int.le_refl _)).1
theorem evL_in {x : Int → Int} {c : Int} {l : List Pt} {p : Pt} (h : p ∈ l) : x p.1 + p.2 ≤ evL x c l := (evL_le.1 (Int.le_refl _)).2 p h
theorem evL_mx {x : Int → Int} {c : Int} {q l : List Pt} (h : ∀ v, mx q v = mx l v) : evL x c q = evL x c l := by
  have key : ∀ {q l : List Pt}, (∀ v, mx q v = mx l v) → ∀ b, evL x c l ≤ b → evL x c q ≤ b := fun {q l} h b hb => by
    rw [evL_le] at hb ⊢
    refine ⟨hb.1, fun p hp => ?_⟩
    obtain ⟨y, e, hy⟩ := mx_mem hp
    rw [h] at e
    have := hb.2 _ (mx_in e)
    dsimp only at this
    omega
  exact evL_ext fun b => ⟨key (fun v => (h v).symm) b, key h b⟩
theorem evL_most {x : Int → Int} (hx : ∀ v, 0 ≤ x v) {c : Int} (hc : 0 ≤ c) (l : List Pt) : mostL l ≤ evL x c l := by
  have h0 := evL_ge (x := x) (c := c) l
  exact (mostL_le (by omega)).2 fun p hp => by have := evL_in (x := x) (c := c) hp; have := hx p.1; omega
theorem evL_cq {x : Int → Int} (hx : ∀ v, 0 ≤ x v) {c : Int} (hc : 0 ≤ c) (q : List Pt) : evL x (cq c q) q = evL x c q := by
  unfold cq
  split
  · rename_i h
    refine evL_ext fun b => ?_
    have h1 := evL_most hx (Int.le_refl 0) q
    have h2 := evL_most hx hc q
    constructor
    · intro hb
      have hb' := evL_le.1 hb
      exact evL_le.2 ⟨by omega, hb'.2⟩
    · intro hb
      have hb' := evL_le.1 hb
      exact evL_le.2 ⟨by omega, hb'.2⟩
  · rfl
/-- the assignment of the values of what is put in -/
def putX (m : Nat) (C : Nat → Int) (B : Nat → List Pt) (x : Int → Int) (v : Int) : Int := if v < m then evL x (C v.toNat) (B v.toNat) else x v
theorem evL_big {m : Nat} {C : Nat → Int} {B : Nat → List Pt} {x : Int → Int} {c : Int} : ∀ l : List Pt, evL x (sc m C c l) (big m B l) = evL (putX m C B x) c l
  | [] => rfl
  | p :: l => by
    have ih := evL_big (m := m) (C := C) (B := B) (x := x) (c := c) l
    have ihb : ∀ b, (sc m C c l ≤ b ∧ ∀ q, q ∈ big m B l → x q.1 + q.2 ≤ b) ↔ evL (putX m C B x) c l ≤ b := fun b => by rw [← ih, evL_le]
    refine evL_ext fun b => ?_
    rw [evL_le, evL, Int.max_le, ← ihb]
    simp only [sc, big, big1, putX]
    by_cases h : p.1 < m
    · simp only [if_pos h, List.mem_append, List.mem_map, Int.max_le]
      have e : evL x (C p.1.toNat) (B p.1.toNat) + p.2 ≤ b ↔ C p.1.toNat + p.2 ≤ b ∧ ∀ q, q ∈ B p.1.toNat → x q.1 + q.2 + p.2 ≤ b := by
        rw [show (evL x (C p.1.toNat) (B p.1.toNat) + p.2 ≤ b ↔ evL x (C p.1.toNat) (B p.1.toNat) ≤ b - p.2) by omega, evL_le]
        constructor
        · rintro ⟨h1, h2⟩; exact ⟨by omega, fun q hq => by have := h2 q hq; omega⟩
        · rintro ⟨h1, h2⟩; exact ⟨by omega, fun q hq => by have := h2 q hq; omega⟩
      rw [e]
      constructor
      · rintro ⟨⟨h1, h2⟩, h3⟩
        refine ⟨⟨h1, fun q hq => ?_⟩, h2, fun q hq => h3 q (.inr hq)⟩
        have := h3 (q.1, q.2 + p.2) (.inl ⟨q, hq, rfl⟩)
        dsimp only at this
        omega
      · rintro ⟨⟨h1, h2⟩, h3, h4⟩
        refine ⟨⟨h1, h3⟩, fun q hq => ?_⟩
        rcases hq with ⟨r, hr, rfl⟩ | hq
        · have := h2 r hr; dsimp only; omega
        · exact h4 q hq
    · simp only [if_neg h, List.mem_append, List.mem_singleton]
      constructor
      · rintro ⟨h1, h2⟩
        exact ⟨h2 p (.inl rfl), h1, fun q hq => h2 q (.inr hq)⟩
      · rintro ⟨h1, h2, h3⟩
        refine ⟨h2, fun q hq => ?_⟩
        rcases hq with rfl | hq
        · exact h1
        · exact h3 q hq
theorem evL_congr {x y : Int → Int} {c : Int} {l : List Pt} (h : ∀ p, p ∈ l → x p.1 = y p.1) : evL x c l = evL y c l := by
  induction l with
  | nil => rfl
  | cons p l ih =>
    unfold evL
    rw [h p List.mem_cons_self, ih fun q hq => h q (List.mem_cons_of_mem _ hq)]
/-- what comes out, by its value -/
theorem puts_ev {m : Nat} {C : Nat → Int} {B : Nat → List Pt} {x : Int → Int} {c c' : Int} {l q : List Pt} (hx : ∀ v, 0 ≤ x v) (hc : 0 ≤ c) (hq : ∀ v, mx q v = mx (big m B l) v) (hc' : c' = cq (sc m C c l) q) : evL x c' q = evL (putX m C B x) c l := by
  have := sc_ge m C c l
  rw [hc', evL_cq hx (by omega), evL_mx hq, evL_big]
theorem putX_ge {m : Nat} {C : Nat → Int} {B : Nat → List Pt} {x : Int → Int} (hx : ∀ v, 0 ≤ x v) (hC : ∀ i, i < m → 0 ≤ C i) (v : Int) (h0 : 0 ≤ v) : 0 ≤ putX m C B x v := by
  unfold putX
  split
  · have := hC v.toNat (by omega); have := evL_ge (x := x) (c := C v.toNat) (B v.toNat); omega
  · exact hx v
/-- what is at most stays so -/
theorem puts_leq {m : Nat} {C : Nat → Int} {B : Nat → List Pt} {c c' c1 c1' : Int} {n n' n1 n1' : Nat} {V P V' P' V1 P1 V1' P1' : Nat → Int} (va : ValidP c n V P) (vb : ValidP c' n' V' P') (v1 : ValidP c1 n1 V1 P1) (v1' : ValidP c1' n1' V1' P1')
    (hC : ∀ i, i < m → 0 ≤ C i) (h1 : ∀ v, mx (lst V1 P1 n1) v = mx (big m B (lst V P n)) v) (e1 : c1 = cq (sc m C c (lst V P n)) (lst V1 P1 n1))
    (h2 : ∀ v, mx (lst V1' P1' n1') v = mx (big m B (lst V' P' n')) v) (e2 : c1' = cq (sc m C c' (lst V' P' n')) (lst V1' P1' n1')) (h : LeqP c n V P c' n' V' P') : LeqP c1 n1 V1 P1 c1' n1' V1' P1' := by
  have key : ∀ x : Int → Int, (∀ v, 0 ≤ x v) → evV V1 P1 x c1 n1 ≤ evV V1' P1' x c1' n1' := fun x hx => by
    rw [evV_L, evV_L, puts_ev hx va.1 h1 e1, puts_ev hx vb.1 h2 e2]
    have e : ∀ {c n} {V P : Nat → Int}, ValidP c n V P → evL (putX m C B x) c (lst V P n) = evV V P (fun v => putX m C B x (max v 0)) c n := fun {c n V P} v => by
      rw [evV_L]
      refine evL_congr fun p hp => ?_
      obtain ⟨i, hi, rfl⟩ := lst_mem.1 hp
      have := (v.2.2.2 i hi).1
      dsimp only
      rw [show max (V i) 0 = V i by omega]
    rw [e va, e vb]
    exact leq_ev _ (fun v => putX_ge hx hC _ (by omega)) vb.1 h
  exact leq_of_ev v1 v1' (key _ fun _ => Int.le_refl _) fun i _ => key _ fun v => by split <;> decide
/-- the parts of what comes out, each in its range -/
theorem big_range {m : Nat} {B : Nat → List Pt} {l : List Pt} (hl : ∀ p, p ∈ l → 0 ≤ p.1 ∧ p.1 < 1200 ∧ 0 ≤ p.2) (hB : ∀ i, i < m → ∀ p, p ∈ B i → 0 ≤ p.1 ∧ p.1 < 1200 ∧ 0 ≤ p.2) : ∀ v p, mx (big m B l) v = some p → 0 ≤ v ∧ v < 1200 ∧ 0 ≤ p := by
  have key : ∀ l : List Pt, (∀ p, p ∈ l → 0 ≤ p.1 ∧ p.1 < 1200 ∧ 0 ≤ p.2) → ∀ q, q ∈ big m B l → 0 ≤ q.1 ∧ q.1 < 1200 ∧ 0 ≤ q.2 := by
    intro l
    induction l with
    | nil => intro _ q hq; cases hq
    | cons p l ih =>
      intro hl q hq
      have hp := hl p List.mem_cons_self
      simp only [big, big1, List.mem_append] at hq
      rcases hq with hq | hq
      · split at hq
        · obtain ⟨r, hr, rfl⟩ := List.mem_map.1 hq
          have := hB p.1.toNat (by omega) r hr
          dsimp only
          omega
        · obtain rfl := List.mem_singleton.1 hq
          exact hp
      · exact ih (fun r hr => hl r (List.mem_cons_of_mem _ hr)) q hq
  exact fun v p h => key l hl _ (mx_in h)
end Go.VM

namespace Go.VM
open Go.Proofs Go
set_option maxRecDepth 100000
set_option linter.unusedVariables false
set_option linter.unusedSimpArgs false
theorem CanR.opn {c : Int} {f : Int → Option Int} {c' : Int} {n : Nat} {V P : Nat → Int} (h : CanR c f (.tup [lv c' n V P, .d (.int .i64 0)])) :
    asc (lst V P n) ∧ (∀ v, mx (lst V P n) v = f v) ∧ c' = cq c (lst V P n) ∧ c' ≤ 1000 ∧ mostL (lst V P n) ≤ 1000 ∧ n ≤ 8 := by
  obtain ⟨q, h1, h2, c1, n1, V1, P1, e1, he, h3, h4, h5⟩ := h
  simp only [lv, A.tup.injEq, List.cons.injEq, A.agg.injEq, A.d.injEq, D.int.injEq, D.sl.injEq, true_and, and_true] at he
  obtain ⟨⟨rfl, rfl, hf⟩, rfl⟩ := he
  have hl : lst V1 P1 n = lst V P n := lst_congr fun k _ => ⟨by have := congrFun (congrFun hf k) 0; simpa [lvF] using this.symm, by have := congrFun (congrFun hf k) 1; simpa [lvF] using this.symm⟩
  rw [hl] at h5
  cases e : canonL c q with
  | none => have := (h4 e).1; simp at this
  | some x =>
    obtain ⟨_, h6, h7⟩ := h5 x e
    rw [canon_fits] at e
    by_cases h8 : (if c ≤ mostL q then 0 else c) > 1000 ∨ mostL q > 1000 ∨ q.length > 8
    · rw [if_pos h8] at e
      cases e
    · rw [if_neg h8] at e
      obtain rfl := Option.some.inj e
      dsimp only at h6 h7
      subst h7
      rw [lst_length] at h8
      have h9 : c' = cq c (lst V P n) := h6
      rw [← h6] at h8
      refine ⟨h1, h2, h9, ?_, ?_, ?_⟩ <;> omega
theorem CanR.vld {c : Int} {f : Int → Option Int} {c' : Int} {n : Nat} {V P : Nat → Int} (h : CanR c f (.tup [lv c' n V P, .d (.int .i64 0)])) (h0 : 0 ≤ c) (hf : ∀ v p, f v = some p → 0 ≤ v ∧ v < 1200 ∧ 0 ≤ p) : ValidP c' n V P := by
  obtain ⟨h1, h2, h3, h4, h5, h6⟩ := h.opn
  refine ⟨by rw [h3]; unfold cq; split <;> omega, h4, h6, fun i hi => ?_⟩
  have hm : (V i, P i) ∈ lst V P n := lst_mem.2 ⟨i, hi, rfl⟩
  have hd := asc_dist h1
  obtain ⟨y, e, hy⟩ := mx_mem hm
  dsimp only at e hy
  obtain ⟨j, hj, e2⟩ := lst_mem.1 (mx_in e)
  obtain ⟨e3, e4⟩ := Prod.mk.inj e2
  have hij : i = j := by
    rcases Nat.lt_trichotomy i j with h | h | h
    · have := hd i j h hj; omega
    · exact h
    · have := hd j i h hi; omega
  subst hij
  have h7 := hf _ _ ((h2 (V i)).symm.trans e)
  have h8 := most_in hm
  dsimp only at h8
  refine ⟨h7.1, h7.2.1, by omega, by omega, fun k hk => ?_⟩
  have := hd k i hk hi
  omega
theorem ValidP.mx2 {c : Int} {n : Nat} {V P : Nat → Int} (h : ValidP c n V P) {v p : Int} (e : mx (lst V P n) v = some p) : 0 ≤ v ∧ v < 1200 ∧ 0 ≤ p := by
  obtain ⟨i, hi, e⟩ := lst_mem.1 (mx_in e)
  obtain ⟨rfl, rfl⟩ := Prod.mk.inj e
  obtain ⟨p1, p2, p3, _⟩ := h.2.2.2 i hi
  exact ⟨p1, p2, p3⟩
theorem SubR.opn {c : Int} {n : Nat} {V P0 : Nat → Int} {m : Nat} {C : Nat → Int} {N : Nat → Nat} {W Q : Nat → Nat → Int} {c1 : Int} {n1 : Nat} {V1 P1 : Nat → Int} (h : SubR c n V P0 m C N W Q (.tup [lv c1 n1 V1 P1, .d (.int .i64 0)]))
    (v : ValidP c n V P0) (vB : ∀ i, i < m → ValidP (C i) (N i) (W i) (Q i)) :
    (∀ v, mx (lst V1 P1 n1) v = mx (big m (fun i => lst (W i) (Q i) (N i)) (lst V P0 n)) v) ∧ c1 = cq (sc m C c (lst V P0 n)) (lst V1 P1 n1) ∧ ValidP c1 n1 V1 P1 := by
  rcases h with ⟨_, h⟩ | ⟨_, h⟩
  · obtain ⟨c2, n2, V2, P2, e2, he, _, h3, _⟩ := h
    obtain ⟨rfl, _⟩ := h3 rfl
    simp at he
  · obtain ⟨h1, h2, h3, _⟩ := h.opn
    refine ⟨h2, h3, h.vld (by have := sc_ge m C c (lst V P0 n); have := v.1; omega) ?_⟩
    refine big_range (fun p hp => ?_) fun i hi p hp => ?_
    · obtain ⟨j, hj, rfl⟩ := lst_mem.1 hp
      obtain ⟨p1, p2, p3, _⟩ := v.2.2.2 j hj
      exact ⟨p1, p2, p3⟩
    · obtain ⟨j, hj, rfl⟩ := lst_mem.1 hp
      obtain ⟨p1, p2, p3, _⟩ := (vB i hi).2.2.2 j hj
      exact ⟨p1, p2, p3⟩
end Go.VM

namespace Go.VM
open Go.Proofs Go
set_option maxRecDepth 100000
set_option linter.unusedVariables false
set_option linter.unusedSimpArgs false
theorem u32wf {x : Int} (h : (Lit.int .u32 x).wf = true) : 0 ≤ x ∧ x ≤ 4294967295 := by
  simp [Lit.wf, IntKind.min, IntKind.max, IntKind.bits, IntKind.signed] at h
  omega
/-- the assignment, as it stands after i numbers -/
def nP (M : Nat → Int) (i : Nat) (j : Nat) : Int := if j < i then M j % 1000001 else 0
theorem nP_succ (M : Nat → Int) (i j : Nat) : nP M (i + 1) j = if j = i then M i % 1000001 else nP M i j := by
  unfold nP
  by_cases e : j = i
  · subst e; rw [if_pos (by omega), if_pos rfl]
  · rw [if_neg e]
    by_cases h : j < i
    · rw [if_pos h, if_pos (by omega)]
    · rw [if_neg h, if_neg (by omega)]
theorem nP_range (M : Nat → Int) (i j : Nat) : 0 ≤ nP M i j ∧ nP M i j ≤ 1000000 := by unfold nP; split <;> omega
/-- the values of what is put in, after i of them -/
def inP (top : Nat) (C : Nat → Int) (N : Nat → Nat) (W Q : Nat → Nat → Int) (n1 : Nat → Int) (i j : Nat) : Int := if j < i then evV (W j) (Q j) (atF top n1) (C j) (N j) else n1 j
theorem inP_succ (top : Nat) (C : Nat → Int) (N : Nat → Nat) (W Q : Nat → Nat → Int) (n1 : Nat → Int) (i j : Nat) : inP top C N W Q n1 (i + 1) j = if j = i then evV (W i) (Q i) (atF top n1) (C i) (N i) else inP top C N W Q n1 i j := by
  unfold inP
  by_cases e : j = i
  · subst e; rw [if_pos (by omega), if_pos rfl]
  · rw [if_neg e]
    by_cases h : j < i
    · rw [if_pos h, if_pos (by omega)]
    · rw [if_neg h, if_neg (by omega)]
theorem inP_step {top : Nat} {C : Nat → Int} {N : Nat → Nat} {W Q : Nat → Nat → Int} {n1 : Nat → Int} {i : Nat} {X : Int} (hX : X = evV (W i) (Q i) (atF top n1) (C i) (N i)) :
    ∀ x j, x < top → j < 1 → Deq (updF (nsF .i64 (inP top C N W Q n1 i)) i 0 (.int .i64 X) x j) (nsF .i64 (inP top C N W Q n1 (i + 1)) x j) := fun x j hx hj => .of_eq (by
  obtain rfl : j = 0 := by omega
  show (if x = i ∧ 0 = 0 then D.int .i64 X else D.int .i64 (inP top C N W Q n1 i x)) = D.int .i64 (inP top C N W Q n1 (i + 1) x)
  rw [inP_succ, ← hX]
  by_cases ex : x = i
  · rw [if_pos ex, if_pos ⟨ex, rfl⟩]
  · rw [if_neg ex, if_neg fun h => ex h.1])
theorem atF_ge (top : Nat) (n1 : Nat → Int) (v : Int) : 0 ≤ atF top n1 v := by unfold atF; split <;> omega
theorem atF_le {top : Nat} {n1 : Nat → Int} {b : Int} (hb : 0 ≤ b) (h : ∀ j, n1 j ≤ b) (v : Int) : atF top n1 v ≤ b := by
  unfold atF
  have := h v.toNat
  split <;> omega
theorem evalR_at {c : Int} {n top : Nat} {V P0 n1 : Nat → Int} {r : A} {b : Int} (h : EvalR c n V P0 top n1 r) (v : ValidP c n V P0) (hb : 0 ≤ b) (hb2 : b ≤ 2147483647) (h1 : ∀ j, n1 j ≤ b) : r = .tup [.d (.int .i64 (evV V P0 (atF top n1) c n)), .d (.int .i64 0)] := by
  obtain ⟨x, e, rfl, _, h2⟩ := h
  obtain ⟨rfl, rfl⟩ := (h2 v).2 _ (evalF_some V P0 top n1 c (atF top n1) n fun i hi => ⟨rfl, by have := atF_le (top := top) hb h1 (V i); omega⟩)
  rfl
theorem inP_le {top : Nat} {C : Nat → Int} {N : Nat → Nat} {W Q : Nat → Nat → Int} {n1 : Nat → Int} {i : Nat} (h : ∀ j, n1 j ≤ 1000000) (vB : ∀ j, j < i → ValidP (C j) (N j) (W j) (Q j)) (j : Nat) : inP top C N W Q n1 i j ≤ 2000000 := by
  unfold inP
  split
  · rename_i hj
    have v := vB j hj
    refine evV_le _ _ _ _ _ (by have := v.2.1; omega) _ fun k hk => ?_
    have := (v.2.2.2 k hk).2.2.2.1
    have := atF_le (top := top) (b := 1000000) (by decide) h (W j k)
    omega
  · have := h j; omega
theorem puts_at {top m n k1 : Nat} {c c1 : Int} {V P0 V1 P1 : Nat → Int} {C : Nat → Int} {N : Nat → Nat} {W Q : Nat → Nat → Int} {n1 : Nat → Int} (v : ValidP c n V P0) (vB : ∀ j, j < m → ValidP (C j) (N j) (W j) (Q j)) (htop : top = 1200)
    (s1 : ∀ v, mx (lst V1 P1 k1) v = mx (big m (fun i => lst (W i) (Q i) (N i)) (lst V P0 n)) v) (s2 : c1 = cq (sc m C c (lst V P0 n)) (lst V1 P1 k1)) : evV V1 P1 (atF top n1) c1 k1 = evV V P0 (atF top (inP top C N W Q n1 m)) c n := by
  rw [evV_L, evV_L, puts_ev (atF_ge top n1) v.1 s1 s2]
  refine evL_congr fun p hp => ?_
  obtain ⟨j, hj, rfl⟩ := lst_mem.1 hp
  obtain ⟨p1, p2, _⟩ := v.2.2.2 j hj
  dsimp only
  unfold putX
  rw [show atF top (inP top C N W Q n1 m) (V j) = max (inP top C N W Q n1 m (V j).toNat) 0 by unfold atF; rw [if_pos (by omega)]]
  unfold inP
  by_cases h : V j < m
  · rw [if_pos h, if_pos (by omega), evV_L]
    dsimp only
    have := evL_ge (x := atF top n1) (c := C (V j).toNat) (lst (W (V j).toNat) (Q (V j).toNat) (N (V j).toNat))
    have := (vB (V j).toNat (by omega)).1
    omega
  · rw [if_neg h, if_neg (by omega)]
    unfold atF
    rw [if_pos (by omega)]
set_option maxHeartbeats 4000000 in
theorem lawPuts (c c' : Int) (n n' : Nat) (V P0 V' P' : Nat → Int) (m : Nat) (C : Nat → Int) (N : Nat → Nat) (W Q : Nat → Nat → Int) (k : Nat) (M : Nat → Int) (hn : n < 2 ^ 63) (hn' : n' < 2 ^ 63) (hm : m < 2 ^ 63) (hN : ∀ i, i < m → N i < 2 ^ 63) (hk : k < 2 ^ 63) (hM : ∀ i, i < k → (Lit.int .u32 (M i)).wf = true) :
    VFun (P ()) 9 [lv c n V P0, lv c' n' V' P', .d (.sl m 2 (lsF C N W Q)), .d (.sl k 1 (nsF .u32 M))] (fun r => r = .d (.bool true)) := by
  refine vfunO (Tf := fun {_} _ => fzT [4, 5] (T ())) (fun {_} => tabOk.frz [4, 5]) [] 400 Tryd.func9 rfl (fun {_} => by kernel_rfl) rfl (Nat.le_of_ble_eq_true rfl) @fun ⟨_, _, _, _, _, _, _, _, _, _, _, _, _, _, _, _, _, _, _, _, _, _, _, _, _, _, _, _, _, _, _, _, _, _, _, _, _, _, wp, wf⟩ R hR => ?_
  cbv
  try simp only [wp, (show ∀ n : Nat, _ = n from fun n => wf.2.2.2.2.2.2.2.2.2.2.2.2.2.1 (Int.ofNat n)), getL, takeL, dropL, TK.isAgg, reduceIte]
  replace hR := fun H => hR _ H _ (.d (.bool true)) rfl
  repeat' first | trivial | with_reducible refine And.intro ?_ ?_ | intro c9
  refine (RValid c n V P0 hn).call ?_
  rintro _ ⟨b, hb, rfl⟩
  rcases hb.dich with ⟨rfl, v⟩ | ⟨rfl, v⟩ <;> clear hb <;> (cbv; try simp only [wp, (show ∀ n : Nat, _ = n from fun n => wf.2.2.2.2.2.2.2.2.2.2.2.2.2.1 (Int.ofNat n)), (show _ = (0 : Nat) from wf.2.2.2.2.2.2.2.2.2.2.2.2.2.1 0), getL, takeL, dropL, TK.isAgg, reduceIte])
  · repeat' first | trivial | with_reducible refine And.intro ?_ ?_ | intro c9
    refine (RValid c' n' V' P' hn').call ?_
    rintro _ ⟨b, hb, rfl⟩
    rcases hb.dich with ⟨rfl, v'⟩ | ⟨rfl, v'⟩ <;> clear hb <;> (cbv; try simp only [wp, (show ∀ n : Nat, _ = n from fun n => wf.2.2.2.2.2.2.2.2.2.2.2.2.2.1 (Int.ofNat n)), (show _ = (0 : Nat) from wf.2.2.2.2.2.2.2.2.2.2.2.2.2.1 0), getL, takeL, dropL, TK.isAgg, reduceIte])
    · refine ⟨fun c9 => ?_, fun c9 => ⟨fun c8 => ?_, fun c8 => ?_⟩⟩
      · (refine Later.mk ?_; cbv; try simp only [wp, (show ∀ n : Nat, _ = n from fun n => wf.2.2.2.2.2.2.2.2.2.2.2.2.2.1 (Int.ofNat n)), (show _ = (0 : Nat) from wf.2.2.2.2.2.2.2.2.2.2.2.2.2.1 0), getL, takeL, dropL, TK.isAgg, reduceIte])
        exact hR _
      · (refine Later.mk ?_; cbv; try simp only [wp, (show ∀ n : Nat, _ = n from fun n => wf.2.2.2.2.2.2.2.2.2.2.2.2.2.1 (Int.ofNat n)), (show _ = (0 : Nat) from wf.2.2.2.2.2.2.2.2.2.2.2.2.2.1 0), getL, takeL, dropL, TK.isAgg, reduceIte])
        exact hR _
      have hm12 : m ≤ 12 := (by (try simp only [wf, nc, nc', Int.toNat_natCast, bsz, ByteArray.size_append, List.length_cons, List.length_nil] at *); (try simp (disch := omega) only [w64, w32, wu8] at *); first | done | omega)
      have h8 := v.2.2.1
      have h8' := v'.2.2.1
      have hk12 : k ≤ 12 := (by (try simp only [wf, nc, nc', Int.toNat_natCast, bsz, ByteArray.size_append, List.length_cons, List.length_nil] at *); (try simp (disch := omega) only [w64, w32, wu8] at *); first | done | omega)
      clear c8 c9
      (refine Later.mk ?_; cbv; try simp only [wp, (show ∀ n : Nat, _ = n from fun n => wf.2.2.2.2.2.2.2.2.2.2.2.2.2.1 (Int.ofNat n)), (show _ = (0 : Nat) from wf.2.2.2.2.2.2.2.2.2.2.2.2.2.1 0), getL, takeL, dropL, TK.isAgg, reduceIte])
      repeat' first | trivial | with_reducible refine And.intro ?_ ?_ | intro c9
      obtain ⟨top, htop⟩ : ∃ top : Nat, top = 1200 := ⟨_, rfl⟩
      refine loopO (Tf := fun {_} _ => fzT [4, 5] (T ())) (fun {_} => tabOk.frz [4, 5]) [] 400 (fun i : Nat => ⟨[.undef, .undef, .d (.sl m 2 (lsF C N W Q)), .d (.sl k 1 (nsF .u32 M)), .iptr (fun x j => getL [.int .i64 c, .sl n 2 (lvF V P0)] j .nilp) 0 0 2, .iptr (fun x j => getL [.int .i64 c', .sl n' 2 (lvF V' P')] j .nilp) 0 0 2, .undef, .undef, .d (.bool false), .ref 0 0 top 1, .d (.int .i64 i), .undef, .undef, .undef, .undef, .undef, .undef, .undef, .undef, .undef, .undef, .undef, .undef, .undef, .undef, .undef, .undef, .undef, .undef, .undef, .undef, .undef, .undef, .undef, .undef, .undef, .undef, .undef, .undef, .undef, .undef, .undef, .undef, .undef, .undef, .undef, .undef, .undef, .undef, .undef, .undef, .undef, .undef, .undef, .undef, .undef, .undef, .undef, .undef, .undef, .undef, .undef, .undef, .undef, .undef, .undef, .undef, .undef, .undef, .undef, .undef, .undef, .undef, .undef, .undef, .undef, .undef, .undef, .undef, .undef, .undef, .undef, .undef, .undef, .undef, .undef, .undef, .undef, .undef, .undef, .undef, .undef, .undef, .undef, .undef, .undef, .undef, .undef, .undef, .undef, .undef, .undef, .undef, .undef, .undef, .undef, .undef, .undef, .undef, .undef, .undef, .undef, .undef, .undef, .undef, .undef, .undef, .undef, .undef, .undef, .undef, .undef, .undef, .undef, .undef, .undef, .undef, .undef, .undef, .undef, .undef], [.arr top 1 (nsF .i64 (nP M i)) 0]⟩) (fun i => k - i) (fun i => i ≤ k) 0 (Nat.zero_le _) (fun {_} => by kernel_rfl) ?_ (fun i => by kernel_rfl) @fun ⟨_, _, _, _, _, _, _, _, _, _, _, _, _, _, _, _, _, _, _, _, _, _, _, _, _, _, _, _, _, _, _, _, _, _, _, _, _, _, wpa, wfa⟩ i Bk hi hBk => ?_
      · (cbv; try simp only [wf, exD, exL, exT, exB, exA, leLs, leL_d, leL_undef, leL_nils, leA_nils, deq_refl, deq_int, deq_bool, deq_str, and_true, true_and, AObj.iter.injEq, nc, nc']; try simp (disch := omega) only [w64, w32, wu8])
        ((try simp only [wf, nc, nc', Int.toNat_natCast, bsz, ByteArray.size_append, List.length_cons, List.length_nil] at *); (try simp (disch := omega) only [w64, w32, wu8] at *))
        exact ⟨⟨by rw [htop]; rfl, rfl⟩, htop.symm, Nat.le_refl _, Nat.zero_le _, fun x j hx hj => .of_eq (by
          obtain rfl : j = 0 := by omega
          rfl)⟩
      (cbv; try simp only [wp, (show ∀ n : Nat, _ = n from fun n => wf.2.2.2.2.2.2.2.2.2.2.2.2.2.1 (Int.ofNat n)), (show _ = (0 : Nat) from wf.2.2.2.2.2.2.2.2.2.2.2.2.2.1 0), wpa, (show ∀ n : Nat, _ = n from fun n => wfa.2.2.2.2.2.2.2.2.2.2.2.2.2.1 (Int.ofNat n)), (show _ = (0 : Nat) from wfa.2.2.2.2.2.2.2.2.2.2.2.2.2.1 0), getL, takeL, dropL, TK.isAgg, reduceIte])
      refine ⟨fun e => ?_, fun e => ?_⟩
      · have e : i < k := (by (try simp only [wf, wfa, nc, nc', Int.toNat_natCast, bsz, ByteArray.size_append, List.length_cons, List.length_nil] at *); (try simp (disch := omega) only [w64, w32, wu8] at *); first | done | omega)
        have hMi := u32wf (hM i e)
        have hq : IntKind.i64.wrap ((M i).tmod 1000001) = M i % 1000001 := by
          rw [Int.tmod_eq_emod_of_nonneg hMi.1]
          exact w64 (by omega) (by omega)
        (refine Later.mk ?_; cbv; try simp only [wp, (show ∀ n : Nat, _ = n from fun n => wf.2.2.2.2.2.2.2.2.2.2.2.2.2.1 (Int.ofNat n)), (show _ = (0 : Nat) from wf.2.2.2.2.2.2.2.2.2.2.2.2.2.1 0), wpa, (show ∀ n : Nat, _ = n from fun n => wfa.2.2.2.2.2.2.2.2.2.2.2.2.2.1 (Int.ofNat n)), (show _ = (0 : Nat) from wfa.2.2.2.2.2.2.2.2.2.2.2.2.2.1 0), getL, takeL, dropL, TK.isAgg, reduceIte])
        repeat' first | with_reducible refine And.intro ?_ ?_ | intro c9
        all_goals first | exact (by (try simp only [wf, wfa, nc, nc', Int.toNat_natCast, bsz, ByteArray.size_append, List.length_cons, List.length_nil] at *); (try simp (disch := omega) only [w64, w32, wu8] at *); first | done | omega) | trivial | skip
        refine hBk (i + 1) _ (by omega) (by omega) ?_
        (cbv; try simp only [wf, wfa, exD, exL, exT, exB, exA, leLs, leL_d, leL_undef, leL_nils, leA_nils, deq_refl, deq_int, deq_bool, deq_str, and_true, true_and, AObj.iter.injEq, nc, nc']; try simp (disch := omega) only [w64, w32, wu8])
        refine ⟨rfl, Nat.le_refl _, Nat.zero_le _, fun x j hx hj => .of_eq ?_⟩
        obtain rfl : j = 0 := by omega
        rw [hq]
        show (if x = i ∧ 0 = 0 then D.int .i64 (M i % 1000001) else D.int .i64 (nP M i x)) = D.int .i64 (nP M (i + 1) x)
        rw [nP_succ]
        by_cases ex : x = i
        · rw [if_pos ex, if_pos ⟨ex, rfl⟩]
        · rw [if_neg ex, if_neg fun h => ex h.1]
      · obtain rfl : i = k := (by (try simp only [wf, wfa, nc, nc', Int.toNat_natCast, bsz, ByteArray.size_append, List.length_cons, List.length_nil] at *); (try simp (disch := omega) only [w64, w32, wu8] at *); first | done | omega)
        clear hBk
        (refine Later.mk ?_; cbv; try simp only [wp, (show ∀ n : Nat, _ = n from fun n => wf.2.2.2.2.2.2.2.2.2.2.2.2.2.1 (Int.ofNat n)), (show _ = (0 : Nat) from wf.2.2.2.2.2.2.2.2.2.2.2.2.2.1 0), wpa, (show ∀ n : Nat, _ = n from fun n => wfa.2.2.2.2.2.2.2.2.2.2.2.2.2.1 (Int.ofNat n)), (show _ = (0 : Nat) from wfa.2.2.2.2.2.2.2.2.2.2.2.2.2.1 0), getL, takeL, dropL, TK.isAgg, reduceIte])
        repeat' first | trivial | with_reducible refine And.intro ?_ ?_ | intro c9
        all_goals first | exact (by (try simp only [wf, wfa, nc, nc', Int.toNat_natCast, bsz, ByteArray.size_append, List.length_cons, List.length_nil] at *); (try simp (disch := omega) only [w64, w32, wu8] at *); first | done | omega) | skip
        obtain ⟨n1, hn1⟩ : ∃ n1, n1 = nP M i := ⟨_, rfl⟩
        have hr1 : ∀ j, 0 ≤ n1 j ∧ n1 j ≤ 1000000 := fun j => by rw [hn1]; exact nP_range M i j
        rw [← hn1]
        clear hn1 hM hk hk12 hi
        refine loopO (Tf := fun {_} _ => fzT [4, 5] (T ())) (fun {_} => tabOk.frz [4, 5]) [] 400 (fun i : Nat => ⟨[.undef, .undef, .d (.sl m 2 (lsF C N W Q)), .undef, .iptr (fun x j => getL [.int .i64 c, .sl n 2 (lvF V P0)] j .nilp) 0 0 2, .iptr (fun x j => getL [.int .i64 c', .sl n' 2 (lvF V' P')] j .nilp) 0 0 2, .undef, .undef, .d (.bool false), .ref 0 0 top 1, .undef, .ref 1 0 top 1, .d (.int .i64 i), .undef, .undef, .undef, .undef, .undef, .undef, .undef, .undef, .undef, .undef, .undef, .undef, .undef, .undef, .undef, .undef, .undef, .undef, .undef, .undef, .undef, .undef, .undef, .undef, .undef, .undef, .undef, .undef, .undef, .undef, .undef, .undef, .undef, .undef, .undef, .undef, .undef, .undef, .undef, .undef, .undef, .undef, .undef, .undef, .undef, .undef, .undef, .undef, .undef, .undef, .undef, .undef, .undef, .undef, .undef, .undef, .undef, .undef, .undef, .undef, .undef, .undef, .undef, .undef, .undef, .undef, .undef, .undef, .undef, .undef, .undef, .undef, .undef, .undef, .undef, .undef, .undef, .undef, .undef, .undef, .undef, .undef, .undef, .undef, .undef, .undef, .undef, .undef, .undef, .undef, .undef, .undef, .undef, .undef, .undef, .undef, .undef, .undef, .undef, .undef, .undef, .undef, .undef, .undef, .undef, .undef, .undef, .undef, .undef, .undef, .undef, .undef, .undef, .undef, .undef, .undef, .undef, .undef], [.arr top 1 (nsF .i64 n1) top, .arr top 1 (nsF .i64 (inP top C N W Q n1 i)) 0]⟩) (fun i => m - i) (fun i => i ≤ m ∧ ∀ j, j < i → ValidP (C j) (N j) (W j) (Q j)) 0 ⟨Nat.zero_le _, fun j hj => absurd hj (Nat.not_lt_zero _)⟩ (fun {_} => by kernel_rfl) ?_ (fun i => by kernel_rfl) @fun ⟨_, _, _, _, _, _, _, _, _, _, _, _, _, _, _, _, _, _, _, _, _, _, _, _, _, _, _, _, _, _, _, _, _, _, _, _, _, _, wpb, wfb⟩ i Bk hi hBk => ?_
        · (cbv; try simp only [wf, wfa, exD, exL, exT, exB, exA, leLs, leL_d, leL_undef, leL_nils, leA_nils, deq_refl, deq_int, deq_bool, deq_str, and_true, true_and, AObj.iter.injEq, nc, nc']; try simp (disch := omega) only [w64, w32, wu8])
          repeat' with_reducible refine And.intro ?_ ?_
          all_goals first
            | rfl
            | exact Nat.zero_add _
            | exact Nat.zero_le _
            | exact Nat.le_refl _
            | (rw [Nat.zero_add]; done)
            | exact fun _ _ _ _ => trivial
            | exact fun x j hx hj => .refl _
            | exact fun x j hx hj => .of_eq (by
                obtain rfl : j = 0 := by omega
                simp [appF, inP, nsF])
        obtain ⟨i1, i2⟩ := hi
        (cbv; try simp only [wp, (show ∀ n : Nat, _ = n from fun n => wf.2.2.2.2.2.2.2.2.2.2.2.2.2.1 (Int.ofNat n)), (show _ = (0 : Nat) from wf.2.2.2.2.2.2.2.2.2.2.2.2.2.1 0), wpa, (show ∀ n : Nat, _ = n from fun n => wfa.2.2.2.2.2.2.2.2.2.2.2.2.2.1 (Int.ofNat n)), (show _ = (0 : Nat) from wfa.2.2.2.2.2.2.2.2.2.2.2.2.2.1 0), wpb, (show ∀ n : Nat, _ = n from fun n => wfb.2.2.2.2.2.2.2.2.2.2.2.2.2.1 (Int.ofNat n)), (show _ = (0 : Nat) from wfb.2.2.2.2.2.2.2.2.2.2.2.2.2.1 0), getL, takeL, dropL, TK.isAgg, reduceIte])
        refine ⟨fun e => ?_, fun e => ?_⟩
        · have e : i < m := (by (try simp only [wf, wfa, wfb, nc, nc', Int.toNat_natCast, bsz, ByteArray.size_append, List.length_cons, List.length_nil] at *); (try simp (disch := omega) only [w64, w32, wu8] at *); first | done | omega)
          have hNi := hN i e
          (refine Later.mk ?_; cbv; try simp only [wp, (show ∀ n : Nat, _ = n from fun n => wf.2.2.2.2.2.2.2.2.2.2.2.2.2.1 (Int.ofNat n)), (show _ = (0 : Nat) from wf.2.2.2.2.2.2.2.2.2.2.2.2.2.1 0), wpa, (show ∀ n : Nat, _ = n from fun n => wfa.2.2.2.2.2.2.2.2.2.2.2.2.2.1 (Int.ofNat n)), (show _ = (0 : Nat) from wfa.2.2.2.2.2.2.2.2.2.2.2.2.2.1 0), wpb, (show ∀ n : Nat, _ = n from fun n => wfb.2.2.2.2.2.2.2.2.2.2.2.2.2.1 (Int.ofNat n)), (show _ = (0 : Nat) from wfb.2.2.2.2.2.2.2.2.2.2.2.2.2.1 0), getL, takeL, dropL, TK.isAgg, reduceIte])
          repeat' first | with_reducible refine And.intro ?_ ?_ | intro c9
          all_goals first | exact (by (try simp only [wf, wfa, wfb, nc, nc', Int.toNat_natCast, bsz, ByteArray.size_append, List.length_cons, List.length_nil] at *); (try simp (disch := omega) only [w64, w32, wu8] at *); first | done | omega) | trivial | skip
          refine (RValid _ _ _ _ hNi).call ?_
          rintro _ ⟨b, hb, rfl⟩
          rcases hb.dich with ⟨rfl, vi⟩ | ⟨rfl, vi⟩ <;> clear hb <;> (cbv; try simp only [wp, (show ∀ n : Nat, _ = n from fun n => wf.2.2.2.2.2.2.2.2.2.2.2.2.2.1 (Int.ofNat n)), (show _ = (0 : Nat) from wf.2.2.2.2.2.2.2.2.2.2.2.2.2.1 0), wpa, (show ∀ n : Nat, _ = n from fun n => wfa.2.2.2.2.2.2.2.2.2.2.2.2.2.1 (Int.ofNat n)), (show _ = (0 : Nat) from wfa.2.2.2.2.2.2.2.2.2.2.2.2.2.1 0), wpb, (show ∀ n : Nat, _ = n from fun n => wfb.2.2.2.2.2.2.2.2.2.2.2.2.2.1 (Int.ofNat n)), (show _ = (0 : Nat) from wfb.2.2.2.2.2.2.2.2.2.2.2.2.2.1 0), getL, takeL, dropL, TK.isAgg, reduceIte])
          · have hNi8 := vi.2.2.1
            (refine Later.mk ?_; cbv; try simp only [wp, (show ∀ n : Nat, _ = n from fun n => wf.2.2.2.2.2.2.2.2.2.2.2.2.2.1 (Int.ofNat n)), (show _ = (0 : Nat) from wf.2.2.2.2.2.2.2.2.2.2.2.2.2.1 0), wpa, (show ∀ n : Nat, _ = n from fun n => wfa.2.2.2.2.2.2.2.2.2.2.2.2.2.1 (Int.ofNat n)), (show _ = (0 : Nat) from wfa.2.2.2.2.2.2.2.2.2.2.2.2.2.1 0), wpb, (show ∀ n : Nat, _ = n from fun n => wfb.2.2.2.2.2.2.2.2.2.2.2.2.2.1 (Int.ofNat n)), (show _ = (0 : Nat) from wfb.2.2.2.2.2.2.2.2.2.2.2.2.2.1 0), getL, takeL, dropL, TK.isAgg, reduceIte])
            repeat' first | with_reducible refine And.intro ?_ ?_ | intro c9
            all_goals first | exact (by (try simp only [wf, wfa, wfb, nc, nc', Int.toNat_natCast, bsz, ByteArray.size_append, List.length_cons, List.length_nil] at *); (try simp (disch := omega) only [w64, w32, wu8] at *); first | done | omega) | trivial | skip
            all_goals
              (refine CallW.frz @fun ⟨_, _, _, _, _, _, _, _, _, _, _, _, _, _, _, _, _, _, _, _, _, _, _, _, _, _, _, _, _, _, _, _, _, _, _, _, _, _, wpz, wfz⟩ => ?_; cbv; try simp only [wpz, wp, (show ∀ n : Nat, _ = n from fun n => wfz.2.2.2.2.2.2.2.2.2.2.2.2.2.1 (Int.ofNat n)), getL, takeL, dropL, TK.isAgg, reduceIte])
              repeat' first | trivial | with_reducible refine And.intro ?_ ?_ | intro c9
              refine (REval (C i) (N i) (W i) (Q i) top n1 (by omega) (by omega)).call ?_
              intro r hr
              obtain rfl := evalR_at hr vi (b := 1000000) (by decide) (by decide) fun j => (hr1 j).2
              clear hr
              obtain ⟨X, hX⟩ : ∃ X, X = evV (W i) (Q i) (atF top n1) (C i) (N i) := ⟨_, rfl⟩
              rw [← hX]
              (cbv; try simp only [wp, (show ∀ n : Nat, _ = n from fun n => wf.2.2.2.2.2.2.2.2.2.2.2.2.2.1 (Int.ofNat n)), (show _ = (0 : Nat) from wf.2.2.2.2.2.2.2.2.2.2.2.2.2.1 0), wpa, (show ∀ n : Nat, _ = n from fun n => wfa.2.2.2.2.2.2.2.2.2.2.2.2.2.1 (Int.ofNat n)), (show _ = (0 : Nat) from wfa.2.2.2.2.2.2.2.2.2.2.2.2.2.1 0), wpb, (show ∀ n : Nat, _ = n from fun n => wfb.2.2.2.2.2.2.2.2.2.2.2.2.2.1 (Int.ofNat n)), (show _ = (0 : Nat) from wfb.2.2.2.2.2.2.2.2.2.2.2.2.2.1 0), getL, takeL, dropL, TK.isAgg, reduceIte])
              repeat' first | trivial | with_reducible refine And.intro ?_ ?_ | intro c9
              all_goals first | exact (by (try simp only [wf, wfa, wfb, nc, nc', Int.toNat_natCast, bsz, ByteArray.size_append, List.length_cons, List.length_nil] at *); (try simp (disch := omega) only [w64, w32, wu8] at *); first | done | omega) | skip
              all_goals
                refine hBk (i + 1) _ (by omega) ⟨by omega, fun j hj => ?_⟩ ?_
                · by_cases ej : j = i
                  · subst ej; exact vi
                  · exact i2 j (by omega)
                (cbv; try simp only [wf, wfa, wfb, exD, exL, exT, exB, exA, leLs, leL_d, leL_undef, leL_nils, leA_nils, deq_refl, deq_int, deq_bool, deq_str, and_true, true_and, AObj.iter.injEq, nc, nc']; try simp (disch := omega) only [w64, w32, wu8])
                repeat' with_reducible refine And.intro ?_ ?_
                all_goals first
                  | rfl
                  | exact Nat.zero_le _
                  | exact Nat.le_refl _
                  | exact fun x j hx hj => .refl _
                  | exact inP_step hX
                  | exact fun _ _ _ _ => trivial
          · (refine Later.mk ?_; cbv; try simp only [wp, (show ∀ n : Nat, _ = n from fun n => wf.2.2.2.2.2.2.2.2.2.2.2.2.2.1 (Int.ofNat n)), (show _ = (0 : Nat) from wf.2.2.2.2.2.2.2.2.2.2.2.2.2.1 0), wpa, (show ∀ n : Nat, _ = n from fun n => wfa.2.2.2.2.2.2.2.2.2.2.2.2.2.1 (Int.ofNat n)), (show _ = (0 : Nat) from wfa.2.2.2.2.2.2.2.2.2.2.2.2.2.1 0), wpb, (show ∀ n : Nat, _ = n from fun n => wfb.2.2.2.2.2.2.2.2.2.2.2.2.2.1 (Int.ofNat n)), (show _ = (0 : Nat) from wfb.2.2.2.2.2.2.2.2.2.2.2.2.2.1 0), getL, takeL, dropL, TK.isAgg, reduceIte])
            exact hR _
        · obtain rfl : i = m := (by (try simp only [wf, wfa, wfb, nc, nc', Int.toNat_natCast, bsz, ByteArray.size_append, List.length_cons, List.length_nil] at *); (try simp (disch := omega) only [w64, w32, wu8] at *); first | done | omega)
          clear hBk
          (refine Later.mk ?_; cbv; try simp only [wp, (show ∀ n : Nat, _ = n from fun n => wf.2.2.2.2.2.2.2.2.2.2.2.2.2.1 (Int.ofNat n)), (show _ = (0 : Nat) from wf.2.2.2.2.2.2.2.2.2.2.2.2.2.1 0), wpa, (show ∀ n : Nat, _ = n from fun n => wfa.2.2.2.2.2.2.2.2.2.2.2.2.2.1 (Int.ofNat n)), (show _ = (0 : Nat) from wfa.2.2.2.2.2.2.2.2.2.2.2.2.2.1 0), wpb, (show ∀ n : Nat, _ = n from fun n => wfb.2.2.2.2.2.2.2.2.2.2.2.2.2.1 (Int.ofNat n)), (show _ = (0 : Nat) from wfb.2.2.2.2.2.2.2.2.2.2.2.2.2.1 0), getL, takeL, dropL, TK.isAgg, reduceIte])
          refine (Subst c n V P0 i C N W Q hn hm hN).call @fun r1 h1 => ?_
          obtain ⟨c1, k1, V1, P1, e1, rfl, l1⟩ := OpR.form h1
          (cbv; try simp only [wp, (show ∀ n : Nat, _ = n from fun n => wf.2.2.2.2.2.2.2.2.2.2.2.2.2.1 (Int.ofNat n)), (show _ = (0 : Nat) from wf.2.2.2.2.2.2.2.2.2.2.2.2.2.1 0), wpa, (show ∀ n : Nat, _ = n from fun n => wfa.2.2.2.2.2.2.2.2.2.2.2.2.2.1 (Int.ofNat n)), (show _ = (0 : Nat) from wfa.2.2.2.2.2.2.2.2.2.2.2.2.2.1 0), wpb, (show ∀ n : Nat, _ = n from fun n => wfb.2.2.2.2.2.2.2.2.2.2.2.2.2.1 (Int.ofNat n)), (show _ = (0 : Nat) from wfb.2.2.2.2.2.2.2.2.2.2.2.2.2.1 0), getL, takeL, dropL, TK.isAgg, reduceIte])
          repeat' first | trivial | with_reducible refine And.intro ?_ ?_ | intro c9
          refine (Subst c' n' V' P' i C N W Q hn' hm hN).call @fun r2 h2 => ?_
          obtain ⟨c2, k2, V2, P2, e2, rfl, l2⟩ := OpR.form h2
          (cbv; try simp only [wp, (show ∀ n : Nat, _ = n from fun n => wf.2.2.2.2.2.2.2.2.2.2.2.2.2.1 (Int.ofNat n)), (show _ = (0 : Nat) from wf.2.2.2.2.2.2.2.2.2.2.2.2.2.1 0), wpa, (show ∀ n : Nat, _ = n from fun n => wfa.2.2.2.2.2.2.2.2.2.2.2.2.2.1 (Int.ofNat n)), (show _ = (0 : Nat) from wfa.2.2.2.2.2.2.2.2.2.2.2.2.2.1 0), wpb, (show ∀ n : Nat, _ = n from fun n => wfb.2.2.2.2.2.2.2.2.2.2.2.2.2.1 (Int.ofNat n)), (show _ = (0 : Nat) from wfb.2.2.2.2.2.2.2.2.2.2.2.2.2.1 0), getL, takeL, dropL, TK.isAgg, reduceIte])
          refine ⟨fun c9 => ?_, fun c9 => ?_⟩
          · obtain rfl : e1 = 0 := (by (try simp only [wf, wfa, wfb, nc, nc', Int.toNat_natCast, bsz, ByteArray.size_append, List.length_cons, List.length_nil] at *); (try simp (disch := omega) only [w64, w32, wu8] at *); first | done | omega)
            obtain ⟨s1, s2, s3⟩ := SubR.opn h1 v i2
            have hpq := puts_at v i2 htop s1 s2 (n1 := n1)
            (refine Later.mk ?_; cbv; try simp only [wp, (show ∀ n : Nat, _ = n from fun n => wf.2.2.2.2.2.2.2.2.2.2.2.2.2.1 (Int.ofNat n)), (show _ = (0 : Nat) from wf.2.2.2.2.2.2.2.2.2.2.2.2.2.1 0), wpa, (show ∀ n : Nat, _ = n from fun n => wfa.2.2.2.2.2.2.2.2.2.2.2.2.2.1 (Int.ofNat n)), (show _ = (0 : Nat) from wfa.2.2.2.2.2.2.2.2.2.2.2.2.2.1 0), wpb, (show ∀ n : Nat, _ = n from fun n => wfb.2.2.2.2.2.2.2.2.2.2.2.2.2.1 (Int.ofNat n)), (show _ = (0 : Nat) from wfb.2.2.2.2.2.2.2.2.2.2.2.2.2.1 0), getL, takeL, dropL, TK.isAgg, reduceIte])
            (refine CallW.frz @fun ⟨_, _, _, _, _, _, _, _, _, _, _, _, _, _, _, _, _, _, _, _, _, _, _, _, _, _, _, _, _, _, _, _, _, _, _, _, _, _, wpz, wfz⟩ => ?_; cbv; try simp only [wpz, wp, (show ∀ n : Nat, _ = n from fun n => wfz.2.2.2.2.2.2.2.2.2.2.2.2.2.1 (Int.ofNat n)), getL, takeL, dropL, TK.isAgg, reduceIte])
            repeat' first | trivial | with_reducible refine And.intro ?_ ?_ | intro c9
            refine (Eval c1 k1 V1 P1 top n1 (by omega) (by omega)).call ?_
            intro r hr
            obtain rfl := evalR_at hr s3 (b := 1000000) (by decide) (by decide) fun j => (hr1 j).2
            clear hr
            obtain ⟨X, hX⟩ : ∃ X, X = evV V1 P1 (atF top n1) c1 k1 := ⟨_, rfl⟩
            rw [← hX] at hpq ⊢
            (cbv; try simp only [wp, (show ∀ n : Nat, _ = n from fun n => wf.2.2.2.2.2.2.2.2.2.2.2.2.2.1 (Int.ofNat n)), (show _ = (0 : Nat) from wf.2.2.2.2.2.2.2.2.2.2.2.2.2.1 0), wpa, (show ∀ n : Nat, _ = n from fun n => wfa.2.2.2.2.2.2.2.2.2.2.2.2.2.1 (Int.ofNat n)), (show _ = (0 : Nat) from wfa.2.2.2.2.2.2.2.2.2.2.2.2.2.1 0), wpb, (show ∀ n : Nat, _ = n from fun n => wfb.2.2.2.2.2.2.2.2.2.2.2.2.2.1 (Int.ofNat n)), (show _ = (0 : Nat) from wfb.2.2.2.2.2.2.2.2.2.2.2.2.2.1 0), getL, takeL, dropL, TK.isAgg, reduceIte])
            (refine CallW.frz @fun ⟨_, _, _, _, _, _, _, _, _, _, _, _, _, _, _, _, _, _, _, _, _, _, _, _, _, _, _, _, _, _, _, _, _, _, _, _, _, _, wpz, wfz⟩ => ?_; cbv; try simp only [wpz, wp, (show ∀ n : Nat, _ = n from fun n => wfz.2.2.2.2.2.2.2.2.2.2.2.2.2.1 (Int.ofNat n)), getL, takeL, dropL, TK.isAgg, reduceIte])
            repeat' first | trivial | with_reducible refine And.intro ?_ ?_ | intro c9
            refine (Eval c n V P0 top (inP top C N W Q n1 i) (by omega) (by omega)).call ?_
            intro r hr
            obtain rfl := evalR_at hr v (b := 2000000) (by decide) (by decide) (inP_le (fun j => (hr1 j).2) i2)
            clear hr
            rw [← hpq]
            clear hpq hX
            (cbv; try simp only [wp, (show ∀ n : Nat, _ = n from fun n => wf.2.2.2.2.2.2.2.2.2.2.2.2.2.1 (Int.ofNat n)), (show _ = (0 : Nat) from wf.2.2.2.2.2.2.2.2.2.2.2.2.2.1 0), wpa, (show ∀ n : Nat, _ = n from fun n => wfa.2.2.2.2.2.2.2.2.2.2.2.2.2.1 (Int.ofNat n)), (show _ = (0 : Nat) from wfa.2.2.2.2.2.2.2.2.2.2.2.2.2.1 0), wpb, (show ∀ n : Nat, _ = n from fun n => wfb.2.2.2.2.2.2.2.2.2.2.2.2.2.1 (Int.ofNat n)), (show _ = (0 : Nat) from wfb.2.2.2.2.2.2.2.2.2.2.2.2.2.1 0), getL, takeL, dropL, TK.isAgg, reduceIte])
            repeat' first | trivial | with_reducible refine And.intro ?_ ?_ | intro c9
            all_goals (refine Later.mk ?_; cbv; try simp only [wp, (show ∀ n : Nat, _ = n from fun n => wf.2.2.2.2.2.2.2.2.2.2.2.2.2.1 (Int.ofNat n)), (show _ = (0 : Nat) from wf.2.2.2.2.2.2.2.2.2.2.2.2.2.1 0), wpa, (show ∀ n : Nat, _ = n from fun n => wfa.2.2.2.2.2.2.2.2.2.2.2.2.2.1 (Int.ofNat n)), (show _ = (0 : Nat) from wfa.2.2.2.2.2.2.2.2.2.2.2.2.2.1 0), wpb, (show ∀ n : Nat, _ = n from fun n => wfb.2.2.2.2.2.2.2.2.2.2.2.2.2.1 (Int.ofNat n)), (show _ = (0 : Nat) from wfb.2.2.2.2.2.2.2.2.2.2.2.2.2.1 0), getL, takeL, dropL, TK.isAgg, reduceIte])
            all_goals repeat' first | trivial | with_reducible refine And.intro ?_ ?_ | intro c9
            · refine awake.call ?_
              rintro _ rfl
              (cbv; try simp only [wp, (show ∀ n : Nat, _ = n from fun n => wf.2.2.2.2.2.2.2.2.2.2.2.2.2.1 (Int.ofNat n)), (show _ = (0 : Nat) from wf.2.2.2.2.2.2.2.2.2.2.2.2.2.1 0), wpa, (show ∀ n : Nat, _ = n from fun n => wfa.2.2.2.2.2.2.2.2.2.2.2.2.2.1 (Int.ofNat n)), (show _ = (0 : Nat) from wfa.2.2.2.2.2.2.2.2.2.2.2.2.2.1 0), wpb, (show ∀ n : Nat, _ = n from fun n => wfb.2.2.2.2.2.2.2.2.2.2.2.2.2.1 (Int.ofNat n)), (show _ = (0 : Nat) from wfb.2.2.2.2.2.2.2.2.2.2.2.2.2.1 0), getL, takeL, dropL, TK.isAgg, reduceIte])
              repeat' first | trivial | with_reducible refine And.intro ?_ ?_ | intro c9
              all_goals exact hR _
            · have e2 : e2 = 0 := (by (try simp only [wf, wfa, wfb, nc, nc', Int.toNat_natCast, bsz, ByteArray.size_append, List.length_cons, List.length_nil] at *); (try simp (disch := omega) only [w64, w32, wu8] at *); first | done | omega)
              subst e2
              obtain ⟨t1, t2, t3⟩ := SubR.opn h2 v' i2
              have hleq := puts_leq v v' s3 t3 (fun j hj => (i2 j hj).1) s1 s2 t1 t2
              refine (Leq c c' n n' V P0 V' P' (by omega) (by omega)).call ?_
              rintro _ ⟨b, hb, rfl⟩
              cases b <;> (cbv; try simp only [wp, (show ∀ n : Nat, _ = n from fun n => wf.2.2.2.2.2.2.2.2.2.2.2.2.2.1 (Int.ofNat n)), (show _ = (0 : Nat) from wf.2.2.2.2.2.2.2.2.2.2.2.2.2.1 0), wpa, (show ∀ n : Nat, _ = n from fun n => wfa.2.2.2.2.2.2.2.2.2.2.2.2.2.1 (Int.ofNat n)), (show _ = (0 : Nat) from wfa.2.2.2.2.2.2.2.2.2.2.2.2.2.1 0), wpb, (show ∀ n : Nat, _ = n from fun n => wfb.2.2.2.2.2.2.2.2.2.2.2.2.2.1 (Int.ofNat n)), (show _ = (0 : Nat) from wfb.2.2.2.2.2.2.2.2.2.2.2.2.2.1 0), getL, takeL, dropL, TK.isAgg, reduceIte])
              · repeat' first | trivial | with_reducible refine And.intro ?_ ?_ | intro c9
                refine awake.call ?_
                rintro _ rfl
                (cbv; try simp only [wp, (show ∀ n : Nat, _ = n from fun n => wf.2.2.2.2.2.2.2.2.2.2.2.2.2.1 (Int.ofNat n)), (show _ = (0 : Nat) from wf.2.2.2.2.2.2.2.2.2.2.2.2.2.1 0), wpa, (show ∀ n : Nat, _ = n from fun n => wfa.2.2.2.2.2.2.2.2.2.2.2.2.2.1 (Int.ofNat n)), (show _ = (0 : Nat) from wfa.2.2.2.2.2.2.2.2.2.2.2.2.2.1 0), wpb, (show ∀ n : Nat, _ = n from fun n => wfb.2.2.2.2.2.2.2.2.2.2.2.2.2.1 (Int.ofNat n)), (show _ = (0 : Nat) from wfb.2.2.2.2.2.2.2.2.2.2.2.2.2.1 0), getL, takeL, dropL, TK.isAgg, reduceIte])
                repeat' first | trivial | with_reducible refine And.intro ?_ ?_ | intro c9
                all_goals exact hR _
              · repeat' first | trivial | with_reducible refine And.intro ?_ ?_ | intro c9
                refine (Leq c1 c2 k1 k2 V1 P1 V2 P2 (by omega) (by omega)).call ?_
                rintro _ ⟨b, hb2, rfl⟩
                obtain rfl := hb2.2 ⟨s3, t3, hleq (hb.1 rfl).2.2⟩
                (cbv; try simp only [wp, (show ∀ n : Nat, _ = n from fun n => wf.2.2.2.2.2.2.2.2.2.2.2.2.2.1 (Int.ofNat n)), (show _ = (0 : Nat) from wf.2.2.2.2.2.2.2.2.2.2.2.2.2.1 0), wpa, (show ∀ n : Nat, _ = n from fun n => wfa.2.2.2.2.2.2.2.2.2.2.2.2.2.1 (Int.ofNat n)), (show _ = (0 : Nat) from wfa.2.2.2.2.2.2.2.2.2.2.2.2.2.1 0), wpb, (show ∀ n : Nat, _ = n from fun n => wfb.2.2.2.2.2.2.2.2.2.2.2.2.2.1 (Int.ofNat n)), (show _ = (0 : Nat) from wfb.2.2.2.2.2.2.2.2.2.2.2.2.2.1 0), getL, takeL, dropL, TK.isAgg, reduceIte])
                repeat' first | trivial | with_reducible refine And.intro ?_ ?_ | intro c9
                refine awake.call ?_
                rintro _ rfl
                (cbv; try simp only [wp, (show ∀ n : Nat, _ = n from fun n => wf.2.2.2.2.2.2.2.2.2.2.2.2.2.1 (Int.ofNat n)), (show _ = (0 : Nat) from wf.2.2.2.2.2.2.2.2.2.2.2.2.2.1 0), wpa, (show ∀ n : Nat, _ = n from fun n => wfa.2.2.2.2.2.2.2.2.2.2.2.2.2.1 (Int.ofNat n)), (show _ = (0 : Nat) from wfa.2.2.2.2.2.2.2.2.2.2.2.2.2.1 0), wpb, (show ∀ n : Nat, _ = n from fun n => wfb.2.2.2.2.2.2.2.2.2.2.2.2.2.1 (Int.ofNat n)), (show _ = (0 : Nat) from wfb.2.2.2.2.2.2.2.2.2.2.2.2.2.1 0), getL, takeL, dropL, TK.isAgg, reduceIte])
                repeat' first | trivial | with_reducible refine And.intro ?_ ?_ | intro c9
                all_goals exact hR _
          · (refine Later.mk ?_; cbv; try simp only [wp, (show ∀ n : Nat, _ = n from fun n => wf.2.2.2.2.2.2.2.2.2.2.2.2.2.1 (Int.ofNat n)), (show _ = (0 : Nat) from wf.2.2.2.2.2.2.2.2.2.2.2.2.2.1 0), wpa, (show ∀ n : Nat, _ = n from fun n => wfa.2.2.2.2.2.2.2.2.2.2.2.2.2.1 (Int.ofNat n)), (show _ = (0 : Nat) from wfa.2.2.2.2.2.2.2.2.2.2.2.2.2.1 0), wpb, (show ∀ n : Nat, _ = n from fun n => wfb.2.2.2.2.2.2.2.2.2.2.2.2.2.1 (Int.ofNat n)), (show _ = (0 : Nat) from wfb.2.2.2.2.2.2.2.2.2.2.2.2.2.1 0), getL, takeL, dropL, TK.isAgg, reduceIte])
            repeat' first | trivial | with_reducible refine And.intro ?_ ?_ | intro c9
            refine awake.call ?_
            rintro _ rfl
            (cbv; try simp only [wp, (show ∀ n : Nat, _ = n from fun n => wf.2.2.2.2.2.2.2.2.2.2.2.2.2.1 (Int.ofNat n)), (show _ = (0 : Nat) from wf.2.2.2.2.2.2.2.2.2.2.2.2.2.1 0), wpa, (show ∀ n : Nat, _ = n from fun n => wfa.2.2.2.2.2.2.2.2.2.2.2.2.2.1 (Int.ofNat n)), (show _ = (0 : Nat) from wfa.2.2.2.2.2.2.2.2.2.2.2.2.2.1 0), wpb, (show ∀ n : Nat, _ = n from fun n => wfb.2.2.2.2.2.2.2.2.2.2.2.2.2.1 (Int.ofNat n)), (show _ = (0 : Nat) from wfb.2.2.2.2.2.2.2.2.2.2.2.2.2.1 0), getL, takeL, dropL, TK.isAgg, reduceIte])
            repeat' first | trivial | with_reducible refine And.intro ?_ ?_ | intro c9
            all_goals exact hR _
    · (refine Later.mk ?_; cbv; try simp only [wp, (show ∀ n : Nat, _ = n from fun n => wf.2.2.2.2.2.2.2.2.2.2.2.2.2.1 (Int.ofNat n)), (show _ = (0 : Nat) from wf.2.2.2.2.2.2.2.2.2.2.2.2.2.1 0), getL, takeL, dropL, TK.isAgg, reduceIte])
      repeat' first | trivial | with_reducible refine And.intro ?_ ?_ | intro c9
      all_goals exact hR _
  · (refine Later.mk ?_; cbv; try simp only [wp, (show ∀ n : Nat, _ = n from fun n => wf.2.2.2.2.2.2.2.2.2.2.2.2.2.1 (Int.ofNat n)), (show _ = (0 : Nat) from wf.2.2.2.2.2.2.2.2.2.2.2.2.2.1 0), getL, takeL, dropL, TK.isAgg, reduceIte])
    repeat' first | trivial | with_reducible refine And.intro ?_ ?_ | intro c9
    all_goals exact hR _
end Go.VM
