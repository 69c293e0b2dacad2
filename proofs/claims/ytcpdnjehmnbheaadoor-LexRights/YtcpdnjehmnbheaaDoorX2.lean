/- Contracts of the functions that the law reaches: part of the proof (X2). -/
import Derived.Test.YtcpdnjehmnbheaaDoorX1
namespace Go.VM
open Go.Proofs
set_option maxRecDepth 100000
set_option linter.unusedVariables false
set_option linter.unusedSimpArgs false

/-- behind the places that are so, from a place on -/
def spanEnd (p : Nat → Bool) (n : Nat) (i : Nat) : Nat :=
  if i < n then (if p i then spanEnd p n (i + 1) else i) else n
termination_by n - i
def digitsE (s : ByteArray) (k : Nat) : Nat := spanEnd (fun i => digitB (btF s i)) s.size k
def nameP (s : ByteArray) (i : Nat) : Bool := letterB (btF s i) || digitB (btF s i) || btF s i == 39 || (btF s i == 46 && letterB (atI s (i + 1)))
def nameE (s : ByteArray) (k : Nat) : Nat := spanEnd (nameP s) s.size k

theorem ext_size (s : ByteArray) (k : Nat) (h : k ≤ s.size) : (s.extract k s.size).size = s.size - k := by
  simp [ByteArray.size_extract]

theorem ext_bt (s : ByteArray) (k p : Nat) (h : k + p < s.size) : btF (s.extract k s.size) p = btF s ((k + p : Nat) : Int) := by
  have h1 : p < (s.extract k s.size).size := by rw [ext_size s k (by omega)]; omega
  rw [btF_get _ _ h1, btF_get _ _ h]
  simp [ByteArray.getElem_extract]

theorem digit_hi (c : Int) (h : 128 ≤ c) : digitB c = false := by simp [digitB]; omega
theorem letter_hi (c : Int) (h : 128 ≤ c) : letterB c = false := by simp [letterB]; omega

theorem f58 (s : ByteArray) (i : Int) (k : Nat) (hk : i = k) (h1 : k ≤ s.size) (hs : s.size < 2 ^ 40) : VFun (P ()) 58 [.d (.str s), .d (.int .i64 i)] (fun r => ∃ b : Int, b = (digitsE s k : Nat) ∧ r = .d (.int .i64 b)) := by
  refine vfun (Tf := @T) @tabOk Tryd.func58 rfl rfl (Nat.le_of_ble_eq_true rfl) @fun ⟨_, _, _, _, _, _, _, _, _, _, _, _, _, _, _, _, _, _, _, _, _, _, _, _, _, _, _, _, _, _, _, _, _, _, _, _, _, _, wp, wf⟩ R hR => ?_
  cbv
  try simp only [wp, getL, takeL, dropL, TK.isAgg, reduceIte]
  replace hR := fun b H h => hR _ H _ (.d (.int .i64 b)) ⟨b, h, rfl⟩
  obtain ⟨t, ht⟩ : ∃ t, t = s.extract k s.size := ⟨_, rfl⟩
  have hsz : t.size = s.size - k := by rw [ht, ext_size s k h1]
  refine ⟨(by (try simp only [wf, nc, nc'] at *); (try simp (disch := omega) only [w64, w32, wu8] at *); omega), (by (try simp only [wf, nc, nc'] at *); (try simp (disch := omega) only [w64, w32, wu8] at *); omega), ?_⟩
  refine loopV (Tf := @T) @tabOk (fun p : Nat => ⟨mk 23 [(0, .d (.str s)), (1, .d (.int .i64 i)), (10, .itr 0)], [.iter t p]⟩) (fun p => s.size - k - p) (fun p => k + p ≤ s.size ∧ digitsE s (k + p) = digitsE s k) 0 ⟨by omega, rfl⟩ ?_ (fun p => rfl) @fun ⟨_, _, _, _, _, _, _, _, _, _, _, _, _, _, _, _, _, _, _, _, _, _, _, _, _, _, _, _, _, _, _, _, _, _, _, _, _, _, wpa, wfa⟩ p Bk hp hBk => ?_
  · (cbv; try simp only [wf, exD, exL, exT, exB, exA, leLs, leL_d, leL_undef, deq_refl, deq_int, deq_bool, deq_str, and_true, true_and, AObj.iter.injEq, nc, nc']; try simp (disch := omega) only [w64, w32, wu8])
    simp [ht, hk]
  (cbv; try simp only [wp, wpa, getL, takeL, dropL, TK.isAgg, reduceIte])
  obtain ⟨hp1, hp2⟩ := hp
  refine ⟨fun h => ?_, fun h => ?_⟩
  · have hlt : p < t.size := (by (try simp only [wf, wfa, nc, nc'] at *); (try simp (disch := omega) only [w64, w32, wu8] at *); omega)
    have hr := rune_p digitB digit_hi t p hlt
    have hb0 : btF t p = btF s ((k + p : Nat) : Int) := by rw [ht]; exact ext_bt s k p (by omega)
    have hu : digitsE s (k + p) = if digitB (btF s ((k + p : Nat) : Int)) then digitsE s (k + p + 1) else k + p := by
      rw [digitsE, spanEnd, if_pos (by omega)]
      rfl
    refine (f57 _).call ?_
    rintro _ ⟨b, hb, rfl⟩
    simp only [wfa] at hb
    rw [hr.1, hb0] at hb
    rw [← hb] at hu
    cases b <;> (cbv; try simp only [wp, wpa, getL, takeL, dropL, TK.isAgg, reduceIte])
    · apply hR
      ((try simp only [wf, wfa, nc, nc'] at *); (try simp (disch := omega) only [w64, w32, wu8] at *))
      rw [← hp2, hu, if_neg (by simp)]
      omega
    · have := (hr.2 (by rw [hb0]; exact hb.symm)).1
      refine hBk (p + 1) _ (by omega) ⟨by omega, by rw [← hp2, hu]; rfl⟩ ?_
      (cbv; try simp only [wf, wfa, exD, exL, exT, exB, exA, leLs, leL_d, leL_undef, deq_refl, deq_int, deq_bool, deq_str, and_true, true_and, AObj.iter.injEq, nc, nc']; try simp (disch := omega) only [w64, w32, wu8])
      omega
  · apply hR
    simp only [wf, wfa, nc, nc'] at *
    rw [← hp2, show k + p = s.size by omega, digitsE, spanEnd, if_neg (by omega)]

theorem name_step (s t : ByteArray) (k p : Nat) (ht : t = s.extract k s.size) (h : k + p < s.size) : (letterB (runeF t p) || digitB (runeF t p) || runeF t p == 39 || (runeF t p == 46 && letterB (atI s ((k : Int) + p + 1)))) = nameP s (k + p) ∧
    (nameP s (k + p) = true → widthF t p = 1) := by
  have hlt : p < t.size := by rw [ht, ext_size s k (by omega)]; omega
  have hb0 : btF t p = btF s ((k + p : Nat) : Int) := by rw [ht]; exact ext_bt s k p h
  have := rune_p (fun c => letterB c || digitB c || c == 39 || (c == 46 && letterB (atI s ((k : Int) + p + 1)))) (fun c hc => by
    simp only [letter_hi c hc, digit_hi c hc]
    simp
    omega) t p hlt
  rw [hb0] at this
  have e : nameP s (k + p) = (letterB (btF s ((k + p : Nat) : Int)) || digitB (btF s ((k + p : Nat) : Int)) || btF s ((k + p : Nat) : Int) == 39 || (btF s ((k + p : Nat) : Int) == 46 && letterB (atI s ((k : Int) + p + 1)))) := by
    unfold nameP
    rw [show ((k + p : Nat) : Int) + 1 = (k : Int) + p + 1 by omega]
  rw [e]
  exact ⟨this.1, fun h => (this.2 h).1⟩

theorem f56 (s : ByteArray) (i : Int) (k : Nat) (hk : i = k) (h1 : k ≤ s.size) (hs : s.size < 2 ^ 40) : VFun (P ()) 56 [.d (.str s), .d (.int .i64 i)] (fun r => ∃ b : Int, b = (nameE s k : Nat) ∧ r = .d (.int .i64 b)) := by
  refine vfun (Tf := @T) @tabOk Tryd.func56 rfl rfl (Nat.le_of_ble_eq_true rfl) @fun ⟨_, _, _, _, _, _, _, _, _, _, _, _, _, _, _, _, _, _, _, _, _, _, _, _, _, _, _, _, _, _, _, _, _, _, _, _, _, _, wp, wf⟩ R hR => ?_
  cbv
  try simp only [wp, getL, takeL, dropL, TK.isAgg, reduceIte]
  replace hR := fun b H h => hR _ H _ (.d (.int .i64 b)) ⟨b, h, rfl⟩
  obtain ⟨t, ht⟩ : ∃ t, t = s.extract k s.size := ⟨_, rfl⟩
  have hsz : t.size = s.size - k := by rw [ht, ext_size s k h1]
  refine ⟨(by (try simp only [wf, nc, nc'] at *); (try simp (disch := omega) only [w64, w32, wu8] at *); omega), (by (try simp only [wf, nc, nc'] at *); (try simp (disch := omega) only [w64, w32, wu8] at *); omega), ?_⟩
  refine loopV (Tf := @T) @tabOk (fun p : Nat => ⟨mk 42 [(0, .d (.str s)), (1, .d (.int .i64 i)), (10, .itr 0)], [.iter t p]⟩) (fun p => s.size - k - p) (fun p => k + p ≤ s.size ∧ nameE s (k + p) = nameE s k) 0 ⟨by omega, rfl⟩ ?_ (fun p => rfl) @fun ⟨_, _, _, _, _, _, _, _, _, _, _, _, _, _, _, _, _, _, _, _, _, _, _, _, _, _, _, _, _, _, _, _, _, _, _, _, _, _, wpa, wfa⟩ p Bk hp hBk => ?_
  · (cbv; try simp only [wf, exD, exL, exT, exB, exA, leLs, leL_d, leL_undef, deq_refl, deq_int, deq_bool, deq_str, and_true, true_and, AObj.iter.injEq, nc, nc']; try simp (disch := omega) only [w64, w32, wu8])
    simp [ht, hk]
  (cbv; try simp only [wp, wpa, getL, takeL, dropL, TK.isAgg, reduceIte])
  obtain ⟨hp1, hp2⟩ := hp
  refine ⟨fun h => ?_, fun h => ?_⟩
  · have hlt : k + p < s.size := (by (try simp only [wf, wfa, nc, nc'] at *); (try simp (disch := omega) only [w64, w32, wu8] at *); omega)
    have hu : nameE s (k + p) = if nameP s (k + p) then nameE s (k + p + 1) else k + p := by
      rw [nameE, spanEnd, if_pos hlt]
      rfl
    obtain ⟨nm1, nm2⟩ := name_step s t k p ht hlt
    have yes : nameP s (k + p) = true → widthF t p = 1 ∧ nameE s (k + (p + 1)) = nameE s k := fun h => ⟨nm2 h, by rw [← hp2, hu, if_pos h]; rfl⟩
    have no : nameP s (k + p) = false → ((k : Int) + p) = (nameE s k : Nat) := fun h => by rw [← hp2, hu, if_neg (by rw [h]; simp)]; simp
    clear hu nm2
    refine (f55 _).call ?_
    rintro _ ⟨b, hb, rfl⟩
    cases b <;> (cbv; try simp only [wp, wpa, getL, takeL, dropL, TK.isAgg, reduceIte])
    · refine (f57 _).call ?_
      rintro _ ⟨b2, hb2, rfl⟩
      cases b2 <;> (cbv; try simp only [wp, wpa, getL, takeL, dropL, TK.isAgg, reduceIte])
      · refine ⟨fun h39 => ?_, fun h39 => ⟨fun h46 => ?_, fun h46 => ?_⟩⟩
        · obtain ⟨y1, y2⟩ := yes (by ((try simp only [wf, wfa, nc, nc'] at *); (try simp (disch := omega) only [w64, w32, wu8] at *)); rw [← nm1]; simp [h39])
          refine hBk (p + 1) _ (by omega) ⟨by omega, y2⟩ ?_
          (cbv; try simp only [wf, wfa, exD, exL, exT, exB, exA, leLs, leL_d, leL_undef, deq_refl, deq_int, deq_bool, deq_str, and_true, true_and, AObj.iter.injEq, nc, nc']; try simp (disch := omega) only [w64, w32, wu8])
          omega
        · refine (f54 s _ (by (try simp only [wf, wfa, nc, nc'] at *); (try simp (disch := omega) only [w64, w32, wu8] at *); omega)).call ?_
          rintro _ ⟨b3, hb3, rfl⟩
          (cbv; try simp only [wp, wpa, getL, takeL, dropL, TK.isAgg, reduceIte])
          refine (f55 _).call ?_
          rintro _ ⟨b4, hb4, rfl⟩
          have h4 : letterB (atI s (↑k + ↑p + 1)) = b4 := by
            ((try simp only [wf, wfa, nc, nc'] at *); (try simp (disch := omega) only [w64, w32, wu8] at *))
            rw [hb4, hb3]
            congr 2
            omega
          cases b4 <;> (cbv; try simp only [wp, wpa, getL, takeL, dropL, TK.isAgg, reduceIte])
          · apply hR
            have := no (by rw [← nm1, h4]; ((try simp only [wf, wfa, nc, nc'] at *); (try simp (disch := omega) only [w64, w32, wu8] at *)); simp [← hb, ← hb2, h39])
            ((try simp only [wf, wfa, nc, nc'] at *); (try simp (disch := omega) only [w64, w32, wu8] at *))
            omega
          · obtain ⟨y1, y2⟩ := yes (by rw [← nm1, h4]; ((try simp only [wf, wfa, nc, nc'] at *); (try simp (disch := omega) only [w64, w32, wu8] at *)); simp [h46])
            refine hBk (p + 1) _ (by omega) ⟨by omega, y2⟩ ?_
            (cbv; try simp only [wf, wfa, exD, exL, exT, exB, exA, leLs, leL_d, leL_undef, deq_refl, deq_int, deq_bool, deq_str, and_true, true_and, AObj.iter.injEq, nc, nc']; try simp (disch := omega) only [w64, w32, wu8])
            omega
        · apply hR
          have := no (by rw [← nm1]; ((try simp only [wf, wfa, nc, nc'] at *); (try simp (disch := omega) only [w64, w32, wu8] at *)); simp [← hb, ← hb2, h39, h46])
          ((try simp only [wf, wfa, nc, nc'] at *); (try simp (disch := omega) only [w64, w32, wu8] at *))
          omega
      · obtain ⟨y1, y2⟩ := yes (by ((try simp only [wf, wfa, nc, nc'] at *); (try simp (disch := omega) only [w64, w32, wu8] at *)); rw [← nm1]; simp [← hb2])
        refine hBk (p + 1) _ (by omega) ⟨by omega, y2⟩ ?_
        (cbv; try simp only [wf, wfa, exD, exL, exT, exB, exA, leLs, leL_d, leL_undef, deq_refl, deq_int, deq_bool, deq_str, and_true, true_and, AObj.iter.injEq, nc, nc']; try simp (disch := omega) only [w64, w32, wu8])
        omega
    · obtain ⟨y1, y2⟩ := yes (by ((try simp only [wf, wfa, nc, nc'] at *); (try simp (disch := omega) only [w64, w32, wu8] at *)); rw [← nm1]; simp [← hb])
      refine hBk (p + 1) _ (by omega) ⟨by omega, y2⟩ ?_
      (cbv; try simp only [wf, wfa, exD, exL, exT, exB, exA, leLs, leL_d, leL_undef, deq_refl, deq_int, deq_bool, deq_str, and_true, true_and, AObj.iter.injEq, nc, nc']; try simp (disch := omega) only [w64, w32, wu8])
      omega
  · apply hR
    simp only [wf, wfa, nc, nc'] at *
    rw [← hp2, show k + p = s.size by omega, nameE, spanEnd, if_neg (by omega)]
end Go.VM
