/- Contracts of the functions that the law reaches: part of the proof (X5). -/
import Derived.Test.YtcpdnjehmnbheaaDoorX4
namespace Go.VM
open Go.Proofs Go
set_option maxRecDepth 100000
set_option linter.unusedVariables false
set_option linter.unusedSimpArgs false

theorem spanEnd_bounds (p : Nat → Bool) (n : Nat) : ∀ (m i : Nat), n - i = m → i ≤ n → i ≤ spanEnd p n i ∧ spanEnd p n i ≤ n
  | 0, i, hm, hi => by rw [spanEnd, if_neg (by omega)]; omega
  | m + 1, i, hm, hi => by
    rw [spanEnd, if_pos (by omega)]
    have := spanEnd_bounds p n m (i + 1) (by omega) (by omega)
    split <;> omega
/-- behind the line -/
def lineE (s : ByteArray) (k : Nat) : Nat := spanEnd (fun i => btF s i != 10) s.size k
def twoB (s : ByteArray) (i : Nat) (a b : Int) : Bool := decide (i + 1 < s.size) && btF s i == a && btF s ((i : Int) + 1) == b
/-- behind the comment in braces, or -1 -/
def blkE (s : ByteArray) (i deep : Nat) : Int :=
  if i + 1 < s.size then
    (if twoB s i 123 45 then blkE s (i + 2) (deep + 1)
    else if twoB s i 45 125 then (if deep ≤ 1 then (i : Int) + 2 else blkE s (i + 2) (deep - 1))
    else blkE s (i + 1) deep)
  else -1
termination_by s.size - i
def comE (s : ByteArray) (k : Nat) : Int := if twoB s k 45 45 then (lineE s k : Nat) else if twoB s k 123 45 then blkE s k 0 else k
def comB (s : ByteArray) (k : Nat) : Bool := twoB s k 45 45 || twoB s k 123 45

theorem btF_u8 (s : ByteArray) (i : Nat) (h : i < s.size) (a : UInt8) : (btF s i == (a.toNat : Int)) = decide (s[i]'h = a) := by
  rw [btF_get s i h]
  by_cases e : s[i]'h = a
  · simp [e]
  · have : (s[i]'h).toNat ≠ a.toNat := fun h' => e (UInt8.toNat_inj.1 h')
    simp [e]
    omega
theorem ext2 (t : ByteArray) (h : 2 ≤ t.size) (a b : UInt8) : t.extract 0 2 = ⟨#[a, b]⟩ ↔ t[0]'(by omega) = a ∧ t[1]'(by omega) = b := by
  constructor
  · intro e
    have h0 : (t.extract 0 2)[0]'(by simp [ByteArray.size_extract]; omega) = t[0]'(by omega) := by simp [ByteArray.getElem_extract]
    have h1 : (t.extract 0 2)[1]'(by simp [ByteArray.size_extract]; omega) = t[1]'(by omega) := by simp [ByteArray.getElem_extract]
    constructor
    · rw [← h0]; simp [e]; rfl
    · rw [← h1]; simp [e]; rfl
  · rintro ⟨h0, h1⟩
    apply ByteArray.ext_getElem
    · simp [ByteArray.size_extract]
      rw [Nat.min_eq_left h]
      rfl
    · intro i hi1 hi2
      have hi : i < 2 := hi2
      rw [ByteArray.getElem_extract]
      match i, hi with
      | 0, _ => simp; exact h0
      | 1, _ => simp; exact h1
theorem ext_get (s : ByteArray) (k i : Nat) (h : i < (s.extract k s.size).size) : (s.extract k s.size)[i] = s[k + i]'(by simp [ByteArray.size_extract] at h; omega) := by simp [ByteArray.getElem_extract]
theorem pre_two (s : ByteArray) (k : Nat) (hk : k ≤ s.size) (a b : UInt8) : preB (s.extract k s.size) ⟨#[a, b]⟩ = twoB s k a.toNat b.toNat := by
  have hsz := ext_size s k hk
  have h2 : (⟨#[a, b]⟩ : ByteArray).size = 2 := rfl
  unfold preB twoB
  rw [h2, hsz]
  by_cases h : k + 1 < s.size
  · rw [show ((k : Int) + 1) = ((k + 1 : Nat) : Int) by omega, btF_u8 s k (by omega), btF_u8 s (k + 1) h]
    have := ext2 (s.extract k s.size) (by omega) a b
    rw [ext_get, ext_get] at this
    simp only [Nat.add_zero] at this
    by_cases e : s[k] = a ∧ s[k + 1] = b
    · simp [h, show 2 ≤ s.size - k by omega, this.2 e, e.1, e.2]
    · have e' := mt this.1 e
      have : (decide (s[k] = a) && decide (s[k + 1] = b)) = false := by simpa using e
      simp [h, show 2 ≤ s.size - k by omega, e', this]
  · simp [h, show ¬ 2 ≤ s.size - k by omega]

theorem drop_ext (s : ByteArray) (k : Nat) : (s.extract k s.size).data.toList = s.data.toList.drop k := by
  simp
  rw [List.take_of_length_le]
  simp [List.length_drop]

theorem idx_line (s : ByteArray) : ∀ (n k : Nat), s.size - k = n → k ≤ s.size → (0 ≤ Lib.indexByte (s.data.toList.drop k) 10 → (lineE s k : Int) = k + Lib.indexByte (s.data.toList.drop k) 10) ∧
    (Lib.indexByte (s.data.toList.drop k) 10 < 0 → lineE s k = s.size) ∧ -1 ≤ Lib.indexByte (s.data.toList.drop k) 10
  | 0, k, hn, hk => by
    have : s.data.toList.drop k = [] := List.drop_eq_nil_of_le (by simp; show s.size ≤ k; omega)
    rw [this]
    refine ⟨fun h => by simp [Lib.indexByte] at h, fun _ => ?_, by simp [Lib.indexByte]⟩
    rw [lineE, spanEnd, if_neg (by omega)]
  | n + 1, k, hn, hk => by
    have hlt : k < s.data.toList.length := by simp; show k < s.size; omega
    have ih := idx_line s n (k + 1) (by omega) (by omega)
    have hd : s.data.toList.drop k = s[k]'(by omega) :: s.data.toList.drop (k + 1) := by
      rw [List.drop_eq_getElem_cons hlt]
      rfl
    have hu : lineE s k = if btF s k != 10 then lineE s (k + 1) else k := by
      rw [lineE, spanEnd, if_pos (by omega)]
      rfl
    have hb := btF_u8 s k (by omega) 10
    rw [hd]
    simp only [Lib.indexByte]
    by_cases e : s[k]'(by omega) = 10
    · have : btF s k = 10 := by simpa [e] using hb
      simp [e, hu, this]
    · have : (btF s k == 10) = false := by simpa [e] using hb
      have e1 : (s[k]'(by omega) == 10) = false := by simpa using e
      simp only [bne, this, Bool.not_false, if_true] at hu
      simp only [e1, Bool.false_eq_true, if_false]
      obtain ⟨i1, i2, i3⟩ := ih
      by_cases h1 : Lib.indexByte (s.data.toList.drop (k + 1)) 10 = -1
      · rw [h1] at i2 ⊢
        refine ⟨fun h => by simp at h, fun _ => by rw [hu]; exact i2 (by omega), by simp⟩
      · have : (Lib.indexByte (s.data.toList.drop (k + 1)) 10 == -1) = false := by simpa using h1
        simp only [this, Bool.false_eq_true, if_false]
        rw [hu]
        refine ⟨fun h => ?_, fun h => by omega, by omega⟩
        rw [i1 (by omega)]
        omega

theorem f53 (s : ByteArray) (i : Int) (k : Nat) (hk : i = k) (h1 : k < s.size) (hs : s.size < 2 ^ 40) : VFun (P ()) 53 [.d (.str s), .d (.int .i64 i)] (fun r => ∃ (x : Int) (b : Bool), x = comE s k ∧ b = comB s k ∧ r = .tup [.d (.int .i64 x), .d (.bool b)]) := by
  refine vfun (Tf := @T) @tabOk Tryd.func53 rfl rfl (Nat.le_of_ble_eq_true rfl) @fun ⟨_, _, _, _, _, _, _, _, _, _, _, _, _, _, _, _, _, _, _, _, _, _, _, _, _, _, _, _, _, _, _, _, _, _, _, _, _, _, wp, wf⟩ R hR => ?_
  cbv
  try simp only [wp, getL, takeL, dropL, TK.isAgg, reduceIte]
  have ht : s.extract i.toNat (s.size : Int).toNat = s.extract k s.size := by rw [hk]; simp
  have p1 := pre_two s k (by omega) 45 45
  have p2 := pre_two s k (by omega) 123 45
  refine ⟨(by (try simp only [wf, nc, nc'] at *); (try simp (disch := omega) only [w64, w32, wu8] at *); omega), (by (try simp only [wf, nc, nc'] at *); (try simp (disch := omega) only [w64, w32, wu8] at *); omega), ?_⟩
  refine (f63 _ _).call ?_
  rintro _ ⟨b, hb, rfl⟩
  replace hb : b = twoB s k 45 45 := by ((try simp only [wf, nc, nc'] at *); (try simp (disch := omega) only [w64, w32, wu8] at *)); rw [hb, ht]; exact p1
  cases b <;> (cbv; try simp only [wp, getL, takeL, dropL, TK.isAgg, reduceIte])
  · refine ⟨(by (try simp only [wf, nc, nc'] at *); (try simp (disch := omega) only [w64, w32, wu8] at *); omega), (by (try simp only [wf, nc, nc'] at *); (try simp (disch := omega) only [w64, w32, wu8] at *); omega), ?_⟩
    refine (f63 _ _).call ?_
    rintro _ ⟨b2, hb2, rfl⟩
    replace hb2 : b2 = twoB s k 123 45 := by ((try simp only [wf, nc, nc'] at *); (try simp (disch := omega) only [w64, w32, wu8] at *)); rw [hb2, ht]; exact p2
    cases b2 <;> (cbv; try simp only [wp, getL, takeL, dropL, TK.isAgg, reduceIte])
    · refine hR _ _ _ (.tup2 (.d _) (.d _)) ⟨i, false, ?_, ?_, rfl⟩
      · ((try simp only [wf, nc, nc'] at *); (try simp (disch := omega) only [w64, w32, wu8] at *))
        simp [comE, ← hb, ← hb2, hk]
      · simp [comB, ← hb, ← hb2]
    · have hc1 : comE s k = blkE s k 0 := by simp [comE, ← hb, ← hb2]
      have hc2 : comB s k = true := by simp [comB, ← hb2]
      refine loopV (Tf := @T) @tabOk (fun (q : Nat × Nat) => ⟨mk 58 [(0, .d (.str s)), (7, .d (.int .i64 q.2)), (8, .d (.int .i64 q.1))], []⟩) (fun q => s.size - q.1) (fun q => q.1 ≤ s.size ∧ q.2 ≤ q.1 ∧ (if q.1 = k then q.2 = 0 else 1 ≤ q.2) ∧ k ≤ q.1 ∧ blkE s q.1 q.2 = blkE s k 0) (k, 0) ⟨by omega, by omega, by simp, by omega, rfl⟩ ?_ (fun q => rfl) @fun ⟨_, _, _, _, _, _, _, _, _, _, _, _, _, _, _, _, _, _, _, _, _, _, _, _, _, _, _, _, _, _, _, _, _, _, _, _, _, _, wpa, wfa⟩ ⟨i, d⟩ Bk hi hBk => ?_
      · (cbv; try simp only [wf, exD, exL, exT, exB, exA, leLs, leL_d, leL_undef, deq_refl, deq_int, deq_bool, deq_str, and_true, true_and, AObj.iter.injEq, nc, nc']; try simp (disch := omega) only [w64, w32, wu8])
        simp [hk]
      (cbv; try simp only [wp, wpa, getL, takeL, dropL, TK.isAgg, reduceIte])
      obtain ⟨q1, q2, q3, q4, q5⟩ := hi
      dsimp only at q1 q2 q3 q4 q5
      have t1 := pre_two s i q1 123 45
      have t2 := pre_two s i q1 45 125
      have hst : s.extract i s.size = s.extract ((i : Int).toNat) ((s.size : Int).toNat) := by simp
      rw [hst] at t1 t2
      refine ⟨fun h => ⟨(by (try simp only [wf, wfa, nc, nc'] at *); (try simp (disch := omega) only [w64, w32, wu8] at *); omega), (by (try simp only [wf, wfa, nc, nc'] at *); (try simp (disch := omega) only [w64, w32, wu8] at *); omega), ?_⟩, fun h => ?_⟩
      · refine (f63 _ _).call ?_
        rintro _ ⟨b3, hb3, rfl⟩
        replace hb3 : b3 = twoB s i 123 45 := by ((try simp only [wf, wfa, nc, nc'] at *); (try simp (disch := omega) only [w64, w32, wu8] at *)); rw [hb3]; exact t1
        have hlt : i < s.size := (by (try simp only [wf, wfa, nc, nc'] at *); (try simp (disch := omega) only [w64, w32, wu8] at *); omega)
        have hu := blkE.eq_1 s i d
        have hd0 : twoB s i 123 45 = false → 1 ≤ d := fun h0 => by
          by_cases e : i = k
          · rw [e, ← hb2] at h0; cases h0
          · rw [if_neg e] at q3; exact q3
        cases b3 <;> (cbv; try simp only [wp, wpa, getL, takeL, dropL, TK.isAgg, reduceIte])
        · refine ⟨(by (try simp only [wf, wfa, nc, nc'] at *); (try simp (disch := omega) only [w64, w32, wu8] at *); omega), (by (try simp only [wf, wfa, nc, nc'] at *); (try simp (disch := omega) only [w64, w32, wu8] at *); omega), ?_⟩
          refine (f63 _ _).call ?_
          rintro _ ⟨b4, hb4, rfl⟩
          replace hb4 : b4 = twoB s i 45 125 := by ((try simp only [wf, wfa, nc, nc'] at *); (try simp (disch := omega) only [w64, w32, wu8] at *)); rw [hb4]; exact t2
          have hd1 := hd0 hb3.symm
          rw [← hb3, ← hb4] at hu
          cases b4 <;> (cbv; try simp only [wp, wpa, getL, takeL, dropL, TK.isAgg, reduceIte])
          · refine ⟨fun h0 => absurd h0 (by (try simp only [wf, wfa, nc, nc'] at *); (try simp (disch := omega) only [w64, w32, wu8] at *); omega), fun h0 => ?_⟩
            have hu2 : blkE s (i + 1) d = blkE s k 0 := by
              rw [← q5, hu]
              by_cases e : i + 1 < s.size
              · simp [e]
              · rw [if_neg e, blkE, if_neg (by omega)]
            refine hBk (i + 1, d) _ (by dsimp only; omega) ⟨by dsimp only; omega, by dsimp only; omega, ?_, by dsimp only; omega, hu2⟩ ?_
            · dsimp only
              rw [if_neg (by omega)]
              exact hd1
            · (cbv; try simp only [wf, wfa, exD, exL, exT, exB, exA, leLs, leL_d, leL_undef, deq_refl, deq_int, deq_bool, deq_str, and_true, true_and, AObj.iter.injEq, nc, nc']; try simp (disch := omega) only [w64, w32, wu8])
              omega
          · have hlt2 : i + 1 < s.size := by
              simp [twoB] at hb4
              omega
            simp only [if_pos hlt2, Bool.false_eq_true, if_false, if_true] at hu
            refine ⟨fun h0 => ?_, fun h0 => ?_⟩
            · refine hR _ _ _ (.tup2 (.d _) (.d _)) ⟨_, true, ?_, hc2.symm, rfl⟩
              ((try simp only [wf, wfa, nc, nc'] at *); (try simp (disch := omega) only [w64, w32, wu8] at *))
              rw [hc1, ← q5, hu, if_pos (by omega)]
            · have h0' : d ≠ 1 := by ((try simp only [wf, wfa, nc, nc'] at *); (try simp (disch := omega) only [w64, w32, wu8] at *)); omega
              rw [if_neg (by omega)] at hu
              obtain ⟨d2, hd2⟩ : ∃ d2, d2 = d - 1 := ⟨_, rfl⟩
              rw [← hd2] at hu
              refine hBk (i + 2, d2) _ (by dsimp only; omega) ⟨by dsimp only; omega, by dsimp only; omega, ?_, by dsimp only; omega, by dsimp only; rw [← q5, hu]⟩ ?_
              · dsimp only
                rw [if_neg (by omega)]
                omega
              · (cbv; try simp only [wf, wfa, exD, exL, exT, exB, exA, leLs, leL_d, leL_undef, deq_refl, deq_int, deq_bool, deq_str, and_true, true_and, AObj.iter.injEq, nc, nc']; try simp (disch := omega) only [w64, w32, wu8])
                omega
        · have hlt2 : i + 1 < s.size := by
            simp [twoB] at hb3
            omega
          rw [← hb3] at hu
          simp only [if_pos hlt2, if_true] at hu
          refine ⟨fun h0 => absurd h0 (by (try simp only [wf, wfa, nc, nc'] at *); (try simp (disch := omega) only [w64, w32, wu8] at *); omega), fun h0 => ?_⟩
          refine hBk (i + 2, d + 1) _ (by dsimp only; omega) ⟨by dsimp only; omega, by dsimp only; omega, ?_, by dsimp only; omega, by dsimp only; rw [← q5, hu]⟩ ?_
          · dsimp only
            rw [if_neg (by omega)]
            omega
          · (cbv; try simp only [wf, wfa, exD, exL, exT, exB, exA, leLs, leL_d, leL_undef, deq_refl, deq_int, deq_bool, deq_str, and_true, true_and, AObj.iter.injEq, nc, nc']; try simp (disch := omega) only [w64, w32, wu8])
            omega
      · refine hR _ _ _ (.tup2 (.d _) (.d _)) ⟨_, true, ?_, hc2.symm, rfl⟩
        ((try simp only [wf, wfa, nc, nc'] at *); (try simp (disch := omega) only [w64, w32, wu8] at *))
        rw [hc1, ← q5, blkE, if_neg (by omega)]
  · refine ⟨(by (try simp only [wf, nc, nc'] at *); (try simp (disch := omega) only [w64, w32, wu8] at *); omega), (by (try simp only [wf, nc, nc'] at *); (try simp (disch := omega) only [w64, w32, wu8] at *); omega), ?_⟩
    obtain ⟨l1, l2, l3⟩ := idx_line s _ k rfl (by omega)
    refine (f69 _ _).call ?_
    rintro _ ⟨x, hx, rfl⟩
    replace hx : x = Lib.indexByte (s.data.toList.drop k) 10 := by ((try simp only [wf, nc, nc'] at *); (try simp (disch := omega) only [w64, w32, wu8] at *)); rw [hx, ht, drop_ext]; rfl
    rw [← hx] at l1 l2 l3
    have hc1 : comE s k = (lineE s k : Nat) := by simp [comE, ← hb]
    have hc2 : comB s k = true := by simp [comB, ← hb]
    (cbv; try simp only [wp, getL, takeL, dropL, TK.isAgg, reduceIte])
    refine ⟨fun h => ?_, fun h => ?_⟩
    · refine hR _ _ _ (.tup2 (.d _) (.d _)) ⟨_, true, ?_, hc2.symm, rfl⟩
      have l4 := (spanEnd_bounds (fun i => btF s i != 10) s.size _ k rfl (by omega)).2
      have l5 : (lineE s k : Int) ≤ s.size := by unfold lineE; omega
      have l6 := l1 (by (try simp only [wf, nc, nc'] at *); (try simp (disch := omega) only [w64, w32, wu8] at *); omega)
      rw [hc1, l6]
      clear l1 l2 l4 hx
      ((try simp only [wf, nc, nc'] at *); (try simp (disch := omega) only [w64, w32, wu8] at *))
      omega
    · refine hR _ _ _ (.tup2 (.d _) (.d _)) ⟨_, true, ?_, hc2.symm, rfl⟩
      ((try simp only [wf, nc, nc'] at *); (try simp (disch := omega) only [w64, w32, wu8] at *))
      rw [hc1, l2 (by omega)]
end Go.VM
