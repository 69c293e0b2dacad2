/- Contracts of the functions that the law reaches: part of the proof (X6). -/
import Derived.Test.YtcpdnjehmnbheaaDoorX5
namespace Go.VM
open Go.Proofs Go
set_option maxRecDepth 100000
set_option linter.unusedVariables false
set_option linter.unusedSimpArgs false

/-- behind the gap at a place, and the error of a comment that is not closed -/
def gapE (s : ByteArray) (k : Nat) : Int :=
  if k < s.size then
    (if blankB (btF s k) then k + 1
    else if comB s k then (if comE s k < 0 then k else comE s k)
    else k)
  else k
def gapF (s : ByteArray) (k : Nat) : Int := if k < s.size ∧ comB s k = true ∧ comE s k < 0 ∧ blankB (btF s k) = false then 10 else 0

theorem f23 (s : ByteArray) (i : Int) (k : Nat) (hk : i = k) (h1 : k ≤ s.size) (hs : s.size < 2 ^ 40) : VFun (P ()) 23 [.d (.str s), .d (.int .i64 i)] (fun r => ∃ (x e : Int), x = gapE s k ∧ e = gapF s k ∧ r = .tup [.d (.int .i64 x), .d (.int .i64 e)]) := by
  refine vfun (Tf := @T) @tabOk Tryd.func23 rfl rfl (Nat.le_of_ble_eq_true rfl) @fun ⟨_, _, _, _, _, _, _, _, _, _, _, _, _, _, _, _, _, _, _, _, _, _, _, _, _, _, _, _, _, _, _, _, _, _, _, _, _, _, wp, wf⟩ R hR => ?_
  cbv
  try simp only [wp, getL, takeL, dropL, TK.isAgg, reduceIte]
  replace hR := fun x e H h1 h2 => hR _ H _ (.tup2 (.d (.int .i64 x)) (.d (.int .i64 e))) ⟨x, e, h1, h2, rfl⟩
  have hb : btF s i = btF s (k : Int) := by rw [hk]
  have hat : ∀ x : Int, x = k + 1 → atI s x = (if k + 1 < s.size then btF s ((k : Int) + 1) else 0) := fun x hx => by rw [hx, atI]; congr 1; simp; omega
  refine ⟨fun h => ?_, fun h => ⟨(by (try simp only [wf, nc, nc'] at *); (try simp (disch := omega) only [w64, w32, wu8] at *); omega), (by (try simp only [wf, nc, nc'] at *); (try simp (disch := omega) only [w64, w32, wu8] at *); omega), fun c1 => ?_, fun c1 => ⟨(by (try simp only [wf, nc, nc'] at *); (try simp (disch := omega) only [w64, w32, wu8] at *); omega), (by (try simp only [wf, nc, nc'] at *); (try simp (disch := omega) only [w64, w32, wu8] at *); omega), fun c2 => ?_, fun c2 => ⟨(by (try simp only [wf, nc, nc'] at *); (try simp (disch := omega) only [w64, w32, wu8] at *); omega), (by (try simp only [wf, nc, nc'] at *); (try simp (disch := omega) only [w64, w32, wu8] at *); omega), fun c3 => ?_, fun c3 => ⟨(by (try simp only [wf, nc, nc'] at *); (try simp (disch := omega) only [w64, w32, wu8] at *); omega), (by (try simp only [wf, nc, nc'] at *); (try simp (disch := omega) only [w64, w32, wu8] at *); omega), fun c4 => ?_, fun c4 => ⟨(by (try simp only [wf, nc, nc'] at *); (try simp (disch := omega) only [w64, w32, wu8] at *); omega), (by (try simp only [wf, nc, nc'] at *); (try simp (disch := omega) only [w64, w32, wu8] at *); omega), fun c5 => ?_, fun c5 => ?_⟩⟩⟩⟩⟩⟩
  · have h : ¬ k < s.size := (by (try simp only [wf, nc, nc'] at *); (try simp (disch := omega) only [w64, w32, wu8] at *); omega)
    exact hR _ _ _ (by simp [gapE, h, hk]) (by simp [gapF, h])
  · have h : k < s.size := (by (try simp only [wf, nc, nc'] at *); (try simp (disch := omega) only [w64, w32, wu8] at *); omega)
    have : blankB (btF s k) = true := by ((try simp only [wf, nc, nc'] at *); (try simp (disch := omega) only [w64, w32, wu8] at *)); rw [← hb]; simp [blankB, c1]
    exact hR _ _ _ (by simp only [gapE, h, this, if_true]; ((try simp only [wf, nc, nc'] at *); (try simp (disch := omega) only [w64, w32, wu8] at *)); omega) (by simp [gapF, this])
  · have h : k < s.size := (by (try simp only [wf, nc, nc'] at *); (try simp (disch := omega) only [w64, w32, wu8] at *); omega)
    have : blankB (btF s k) = true := by ((try simp only [wf, nc, nc'] at *); (try simp (disch := omega) only [w64, w32, wu8] at *)); rw [← hb]; simp [blankB, c2]
    exact hR _ _ _ (by simp only [gapE, h, this, if_true]; ((try simp only [wf, nc, nc'] at *); (try simp (disch := omega) only [w64, w32, wu8] at *)); omega) (by simp [gapF, this])
  · have h : k < s.size := (by (try simp only [wf, nc, nc'] at *); (try simp (disch := omega) only [w64, w32, wu8] at *); omega)
    have : blankB (btF s k) = true := by ((try simp only [wf, nc, nc'] at *); (try simp (disch := omega) only [w64, w32, wu8] at *)); rw [← hb]; simp [blankB, c3]
    exact hR _ _ _ (by simp only [gapE, h, this, if_true]; ((try simp only [wf, nc, nc'] at *); (try simp (disch := omega) only [w64, w32, wu8] at *)); omega) (by simp [gapF, this])
  · have h : k < s.size := (by (try simp only [wf, nc, nc'] at *); (try simp (disch := omega) only [w64, w32, wu8] at *); omega)
    have : blankB (btF s k) = true := by ((try simp only [wf, nc, nc'] at *); (try simp (disch := omega) only [w64, w32, wu8] at *)); rw [← hb]; simp [blankB, c4]
    exact hR _ _ _ (by simp only [gapE, h, this, if_true]; ((try simp only [wf, nc, nc'] at *); (try simp (disch := omega) only [w64, w32, wu8] at *)); omega) (by simp [gapF, this])
  · have h : k < s.size := (by (try simp only [wf, nc, nc'] at *); (try simp (disch := omega) only [w64, w32, wu8] at *); omega)
    have nb : blankB (btF s k) = false := by ((try simp only [wf, nc, nc'] at *); (try simp (disch := omega) only [w64, w32, wu8] at *)); rw [← hb]; simp [blankB, c1, c2, c3, c4]
    refine (f37 s _ (by (try simp only [wf, nc, nc'] at *); (try simp (disch := omega) only [w64, w32, wu8] at *); omega)).call ?_
    rintro _ ⟨b, hb2, rfl⟩
    (cbv; try simp only [wp, getL, takeL, dropL, TK.isAgg, reduceIte])
    replace hb2 : b = (if k + 1 < s.size then btF s ((k : Int) + 1) else 0) := by rw [hb2]; apply hat; ((try simp only [wf, nc, nc'] at *); (try simp (disch := omega) only [w64, w32, wu8] at *)); omega
    have h45 : btF s k = 45 := by ((try simp only [wf, nc, nc'] at *); (try simp (disch := omega) only [w64, w32, wu8] at *)); omega
    refine ⟨fun e => ?_, fun e => ⟨(by (try simp only [wf, nc, nc'] at *); (try simp (disch := omega) only [w64, w32, wu8] at *); omega), (by (try simp only [wf, nc, nc'] at *); (try simp (disch := omega) only [w64, w32, wu8] at *); omega), fun c6 => absurd c6 (by (try simp only [wf, nc, nc'] at *); (try simp (disch := omega) only [w64, w32, wu8] at *); omega), fun c6 => ?_⟩⟩
    · have h2 : k + 1 < s.size := by
        by_cases h' : k + 1 < s.size
        · exact h'
        · rw [if_neg h'] at hb2; omega
      have y1 : twoB s k 45 45 = true := by
        rw [if_pos h2] at hb2
        simp [twoB, h2, h45, ← hb2, e]
      have hg : gapE s k = (lineE s k : Nat) := by simp [gapE, h, nb, comB, comE, y1]; omega
      have hf : gapF s k = 0 := by simp [gapF, comE, y1]; omega
      refine loopV (Tf := @T) @tabOk (fun j : Nat => ⟨mk 121 [(0, .d (.str s)), (1, .d (.int .i64 j))], []⟩) (fun j => s.size - j) (fun j => k ≤ j ∧ j ≤ s.size ∧ lineE s j = lineE s k) k ⟨by omega, by omega, rfl⟩ ?_ (fun j => rfl) @fun ⟨_, _, _, _, _, _, _, _, _, _, _, _, _, _, _, _, _, _, _, _, _, _, _, _, _, _, _, _, _, _, _, _, _, _, _, _, _, _, wpa, wfa⟩ j Bk hj hBk => ?_
      · (cbv; try simp only [wf, exD, exL, exT, exB, exA, leLs, leL_d, leL_undef, deq_refl, deq_int, deq_bool, deq_str, and_true, true_and, AObj.iter.injEq, nc, nc']; try simp (disch := omega) only [w64, w32, wu8])
        omega
      (cbv; try simp only [wp, wpa, getL, takeL, dropL, TK.isAgg, reduceIte])
      obtain ⟨j1, j2, j3⟩ := hj
      refine ⟨fun e1 => ⟨(by (try simp only [wf, wfa, nc, nc'] at *); (try simp (disch := omega) only [w64, w32, wu8] at *); omega), (by (try simp only [wf, wfa, nc, nc'] at *); (try simp (disch := omega) only [w64, w32, wu8] at *); omega), fun e2 => ?_, fun e2 => ?_⟩, fun e1 => ?_⟩
      · have e1 : j < s.size := (by (try simp only [wf, wfa, nc, nc'] at *); (try simp (disch := omega) only [w64, w32, wu8] at *); omega)
        have e2 : ¬ btF s j = 10 := by ((try simp only [wf, wfa, nc, nc'] at *); (try simp (disch := omega) only [w64, w32, wu8] at *)); exact e2
        refine hBk (j + 1) _ (by omega) ⟨by omega, by omega, ?_⟩ ?_
        · rw [← j3, lineE, lineE, spanEnd.eq_1 _ _ j, if_pos e1, if_pos (by simp [e2])]
        · (cbv; try simp only [wf, wfa, exD, exL, exT, exB, exA, leLs, leL_d, leL_undef, deq_refl, deq_int, deq_bool, deq_str, and_true, true_and, AObj.iter.injEq, nc, nc']; try simp (disch := omega) only [w64, w32, wu8])
          omega
      · have e1 : j < s.size := (by (try simp only [wf, wfa, nc, nc'] at *); (try simp (disch := omega) only [w64, w32, wu8] at *); omega)
        have e2 : btF s j = 10 := by ((try simp only [wf, wfa, nc, nc'] at *); (try simp (disch := omega) only [w64, w32, wu8] at *)); exact e2
        refine hR _ _ _ ?_ hf.symm
        rw [hg, ← j3, lineE, spanEnd, if_pos e1, if_neg (by simp [e2])]
        ((try simp only [wf, wfa, nc, nc'] at *); (try simp (disch := omega) only [w64, w32, wu8] at *))
      · have e1 : ¬ j < s.size := (by (try simp only [wf, wfa, nc, nc'] at *); (try simp (disch := omega) only [w64, w32, wu8] at *); omega)
        refine hR _ _ _ ?_ hf.symm
        rw [hg, ← j3, lineE, spanEnd, if_neg e1]
        ((try simp only [wf, wfa, nc, nc'] at *); (try simp (disch := omega) only [w64, w32, wu8] at *))
        omega
    · have n1 : twoB s k 45 45 = false := by
        simp only [twoB]
        by_cases h' : k + 1 < s.size
        · rw [if_pos h'] at hb2
          simp [← hb2, e]
        · simp [h']
      have n2 : twoB s k 123 45 = false := by simp [twoB, h45]
      exact hR _ _ _ (by simp [gapE, nb, comB, n1, n2, hk]) (by simp [gapF, comB, n1, n2])
  · have h : k < s.size := (by (try simp only [wf, nc, nc'] at *); (try simp (disch := omega) only [w64, w32, wu8] at *); omega)
    have nb : blankB (btF s k) = false := by ((try simp only [wf, nc, nc'] at *); (try simp (disch := omega) only [w64, w32, wu8] at *)); rw [← hb]; simp [blankB, c1, c2, c3, c4]
    have n45 : ¬ btF s k = 45 := by ((try simp only [wf, nc, nc'] at *); (try simp (disch := omega) only [w64, w32, wu8] at *)); omega
    have n1 : twoB s k 45 45 = false := by simp [twoB, n45]
    refine ⟨(by (try simp only [wf, nc, nc'] at *); (try simp (disch := omega) only [w64, w32, wu8] at *); omega), (by (try simp only [wf, nc, nc'] at *); (try simp (disch := omega) only [w64, w32, wu8] at *); omega), fun c6 => ?_, fun c6 => ?_⟩
    · have h123 : btF s k = 123 := by ((try simp only [wf, nc, nc'] at *); (try simp (disch := omega) only [w64, w32, wu8] at *)); omega
      refine (f37 s _ (by (try simp only [wf, nc, nc'] at *); (try simp (disch := omega) only [w64, w32, wu8] at *); omega)).call ?_
      rintro _ ⟨b, hb2, rfl⟩
      (cbv; try simp only [wp, getL, takeL, dropL, TK.isAgg, reduceIte])
      replace hb2 : b = (if k + 1 < s.size then btF s ((k : Int) + 1) else 0) := by rw [hb2]; apply hat; ((try simp only [wf, nc, nc'] at *); (try simp (disch := omega) only [w64, w32, wu8] at *)); omega
      refine ⟨fun e => ?_, fun e => ?_⟩
      · have h2 : k + 1 < s.size := by
          by_cases h' : k + 1 < s.size
          · exact h'
          · rw [if_neg h'] at hb2; omega
        have y2 : twoB s k 123 45 = true := by
          rw [if_pos h2] at hb2
          simp [twoB, h2, h123, ← hb2, e]
        have hg : gapE s k = if blkE s k 0 < 0 then (k : Int) else blkE s k 0 := by simp [gapE, h, nb, comB, comE, n1, y2]
        have hf : gapF s k = if blkE s k 0 < 0 then 10 else 0 := by simp [gapF, comB, comE, n1, y2, h, nb]
        refine loopV (Tf := @T) @tabOk (fun q : Nat × Nat => ⟨mk 121 [(0, .d (.str s)), (1, .d (.int .i64 i)), (6, .d (.int .i64 q.2)), (7, .d (.int .i64 q.1))], []⟩) (fun q => s.size - q.1) (fun q => q.1 ≤ s.size ∧ q.2 ≤ q.1 ∧ (if q.1 = k then q.2 = 0 else 1 ≤ q.2) ∧ k ≤ q.1 ∧ blkE s q.1 q.2 = blkE s k 0) (k, 0) ⟨by omega, by omega, by simp, by omega, rfl⟩ ?_ (fun q => rfl) @fun ⟨_, _, _, _, _, _, _, _, _, _, _, _, _, _, _, _, _, _, _, _, _, _, _, _, _, _, _, _, _, _, _, _, _, _, _, _, _, _, wpa, wfa⟩ ⟨j, d⟩ Bk hi hBk => ?_
        · (cbv; try simp only [wf, exD, exL, exT, exB, exA, leLs, leL_d, leL_undef, deq_refl, deq_int, deq_bool, deq_str, and_true, true_and, AObj.iter.injEq, nc, nc']; try simp (disch := omega) only [w64, w32, wu8])
          simp [hk]
        (cbv; try simp only [wp, wpa, getL, takeL, dropL, TK.isAgg, reduceIte])
        obtain ⟨q1, q2, q3, q4, q5⟩ := hi
        dsimp only at q1 q2 q3 q4 q5
        have hu := blkE.eq_1 s j d
        have two : ∀ x y : Int, j + 1 < s.size → btF s j = x → btF s ((j : Int) + 1) = y → twoB s j x y = true := fun x y h a b => by simp [twoB, h, a, b]
        have one1 : ∀ x y : Int, ¬ btF s j = x → twoB s j x y = false := fun x y a => by simp [twoB, a]
        have one2 : ∀ x y : Int, ¬ btF s ((j : Int) + 1) = y → twoB s j x y = false := fun x y a => by simp [twoB, a]
        have DD0 : twoB s j 123 45 = false → 1 ≤ d := fun h0 => by
          by_cases e : j = k
          · rw [e, y2] at h0; cases h0
          · rw [if_neg e] at q3; exact q3
        have DD : j + 1 < s.size → twoB s j 123 45 = false → twoB s j 45 125 = false → blkE s (j + 1) d = blkE s k 0 := fun h a b => by
          rw [← q5, hu]; simp [h, a, b]
        have AA : j + 1 < s.size → twoB s j 123 45 = true → blkE s (j + 2) (d + 1) = blkE s k 0 := fun h a => by
          rw [← q5, hu]; simp [h, a]
        have BB : j + 1 < s.size → twoB s j 123 45 = false → twoB s j 45 125 = true → (d ≤ 1 → blkE s k 0 = j + 2) ∧ (1 < d → blkE s (j + 2) (d - 1) = blkE s k 0) := fun h a b => by
          rw [← q5, hu]
          simp only [if_pos h, a, b, Bool.false_eq_true, if_false, if_true]
          exact ⟨fun h => by rw [if_pos h], fun h => by rw [if_neg (by omega)]⟩
        obtain ⟨d2, hd2⟩ : ∃ d2, d2 = d - 1 := ⟨_, rfl⟩
        have step : ∀ d', j + 1 < s.size → twoB s j 123 45 = false → d' = d → (if j + 1 = k then d' = 0 else 1 ≤ d') := fun d' h a b => by rw [if_neg (by omega), b]; exact DD0 a
        refine ⟨fun e1 => ?_, fun e1 => ?_⟩
        · have h3 : j + 1 < s.size := (by (try simp only [wf, wfa, nc, nc'] at *); (try simp (disch := omega) only [w64, w32, wu8] at *); omega)
          refine ⟨(by (try simp only [wf, wfa, nc, nc'] at *); (try simp (disch := omega) only [w64, w32, wu8] at *); omega), (by (try simp only [wf, wfa, nc, nc'] at *); (try simp (disch := omega) only [w64, w32, wu8] at *); omega), fun e2 => ⟨(by (try simp only [wf, wfa, nc, nc'] at *); (try simp (disch := omega) only [w64, w32, wu8] at *); omega), (by (try simp only [wf, wfa, nc, nc'] at *); (try simp (disch := omega) only [w64, w32, wu8] at *); omega), fun e3 => ?_, fun e3 => ⟨(by (try simp only [wf, wfa, nc, nc'] at *); (try simp (disch := omega) only [w64, w32, wu8] at *); omega), (by (try simp only [wf, wfa, nc, nc'] at *); (try simp (disch := omega) only [w64, w32, wu8] at *); omega), fun e4 => absurd e4 (by (try simp only [wf, wfa, nc, nc'] at *); (try simp (disch := omega) only [w64, w32, wu8] at *); omega), fun e4 => ?_⟩⟩, fun e2 => ⟨(by (try simp only [wf, wfa, nc, nc'] at *); (try simp (disch := omega) only [w64, w32, wu8] at *); omega), (by (try simp only [wf, wfa, nc, nc'] at *); (try simp (disch := omega) only [w64, w32, wu8] at *); omega), fun e3 => ⟨(by (try simp only [wf, wfa, nc, nc'] at *); (try simp (disch := omega) only [w64, w32, wu8] at *); omega), (by (try simp only [wf, wfa, nc, nc'] at *); (try simp (disch := omega) only [w64, w32, wu8] at *); omega), fun e4 => ⟨fun e5 => ?_, fun e5 => ?_⟩, fun e4 => ?_⟩, fun e3 => ?_⟩⟩
          · have t1 : twoB s j 123 45 = true := two _ _ h3 (by ((try simp only [wf, wfa, nc, nc'] at *); (try simp (disch := omega) only [w64, w32, wu8] at *)); exact e2) (by ((try simp only [wf, wfa, nc, nc'] at *); (try simp (disch := omega) only [w64, w32, wu8] at *)); exact e3)
            refine hBk (j + 2, d + 1) _ (by dsimp only; omega) ⟨by dsimp only; omega, by dsimp only; omega, by dsimp only; rw [if_neg (by omega)]; omega, by dsimp only; omega, AA h3 t1⟩ ?_
            (cbv; try simp only [wf, wfa, exD, exL, exT, exB, exA, leLs, leL_d, leL_undef, deq_refl, deq_int, deq_bool, deq_str, and_true, true_and, AObj.iter.injEq, nc, nc']; try simp (disch := omega) only [w64, w32, wu8])
            omega
          · have t1 : twoB s j 123 45 = false := one2 _ _ (by ((try simp only [wf, wfa, nc, nc'] at *); (try simp (disch := omega) only [w64, w32, wu8] at *)); exact e3)
            have t2 : twoB s j 45 125 = false := one1 _ _ (by ((try simp only [wf, wfa, nc, nc'] at *); (try simp (disch := omega) only [w64, w32, wu8] at *)); exact e4)
            refine hBk (j + 1, d) _ (by dsimp only; omega) ⟨by dsimp only; omega, by dsimp only; omega, step d h3 t1 rfl, by dsimp only; omega, DD h3 t1 t2⟩ ?_
            (cbv; try simp only [wf, wfa, exD, exL, exT, exB, exA, leLs, leL_d, leL_undef, deq_refl, deq_int, deq_bool, deq_str, and_true, true_and, AObj.iter.injEq, nc, nc']; try simp (disch := omega) only [w64, w32, wu8])
            omega
          · have t1 : twoB s j 123 45 = false := one1 _ _ (by ((try simp only [wf, wfa, nc, nc'] at *); (try simp (disch := omega) only [w64, w32, wu8] at *)); exact e2)
            have t2 : twoB s j 45 125 = true := two _ _ h3 (by ((try simp only [wf, wfa, nc, nc'] at *); (try simp (disch := omega) only [w64, w32, wu8] at *)); exact e3) (by ((try simp only [wf, wfa, nc, nc'] at *); (try simp (disch := omega) only [w64, w32, wu8] at *)); exact e4)
            have hd := DD0 t1
            have := (BB h3 t1 t2).1 (by (try simp only [wf, wfa, nc, nc'] at *); (try simp (disch := omega) only [w64, w32, wu8] at *); omega)
            refine hR _ _ _ ?_ (by rw [hf, if_neg (by omega)])
            rw [hg, if_neg (by omega), this]
            ((try simp only [wf, wfa, nc, nc'] at *); (try simp (disch := omega) only [w64, w32, wu8] at *))
          · have t1 : twoB s j 123 45 = false := one1 _ _ (by ((try simp only [wf, wfa, nc, nc'] at *); (try simp (disch := omega) only [w64, w32, wu8] at *)); exact e2)
            have t2 : twoB s j 45 125 = true := two _ _ h3 (by ((try simp only [wf, wfa, nc, nc'] at *); (try simp (disch := omega) only [w64, w32, wu8] at *)); exact e3) (by ((try simp only [wf, wfa, nc, nc'] at *); (try simp (disch := omega) only [w64, w32, wu8] at *)); exact e4)
            have hd := DD0 t1
            have hd3 : 1 < d := (by (try simp only [wf, wfa, nc, nc'] at *); (try simp (disch := omega) only [w64, w32, wu8] at *); omega)
            have := (BB h3 t1 t2).2 hd3
            rw [← hd2] at this
            refine hBk (j + 2, d2) _ (by dsimp only; omega) ⟨by dsimp only; omega, by dsimp only; omega, by dsimp only; rw [if_neg (by omega)]; omega, by dsimp only; omega, this⟩ ?_
            (cbv; try simp only [wf, wfa, exD, exL, exT, exB, exA, leLs, leL_d, leL_undef, deq_refl, deq_int, deq_bool, deq_str, and_true, true_and, AObj.iter.injEq, nc, nc']; try simp (disch := omega) only [w64, w32, wu8])
            omega
          · have t1 : twoB s j 123 45 = false := one1 _ _ (by ((try simp only [wf, wfa, nc, nc'] at *); (try simp (disch := omega) only [w64, w32, wu8] at *)); exact e2)
            have t2 : twoB s j 45 125 = false := one2 _ _ (by ((try simp only [wf, wfa, nc, nc'] at *); (try simp (disch := omega) only [w64, w32, wu8] at *)); exact e4)
            refine hBk (j + 1, d) _ (by dsimp only; omega) ⟨by dsimp only; omega, by dsimp only; omega, step d h3 t1 rfl, by dsimp only; omega, DD h3 t1 t2⟩ ?_
            (cbv; try simp only [wf, wfa, exD, exL, exT, exB, exA, leLs, leL_d, leL_undef, deq_refl, deq_int, deq_bool, deq_str, and_true, true_and, AObj.iter.injEq, nc, nc']; try simp (disch := omega) only [w64, w32, wu8])
            omega
          · have t1 : twoB s j 123 45 = false := one1 _ _ (by ((try simp only [wf, wfa, nc, nc'] at *); (try simp (disch := omega) only [w64, w32, wu8] at *)); exact e2)
            have t2 : twoB s j 45 125 = false := one1 _ _ (by ((try simp only [wf, wfa, nc, nc'] at *); (try simp (disch := omega) only [w64, w32, wu8] at *)); exact e3)
            refine hBk (j + 1, d) _ (by dsimp only; omega) ⟨by dsimp only; omega, by dsimp only; omega, step d h3 t1 rfl, by dsimp only; omega, DD h3 t1 t2⟩ ?_
            (cbv; try simp only [wf, wfa, exD, exL, exT, exB, exA, leLs, leL_d, leL_undef, deq_refl, deq_int, deq_bool, deq_str, and_true, true_and, AObj.iter.injEq, nc, nc']; try simp (disch := omega) only [w64, w32, wu8])
            omega
        · have h3 : ¬ j + 1 < s.size := (by (try simp only [wf, wfa, nc, nc'] at *); (try simp (disch := omega) only [w64, w32, wu8] at *); omega)
          rw [if_neg h3] at hu
          refine hR _ _ _ ?_ (by rw [hf, ← q5, hu]; rfl)
          rw [hg, ← q5, hu, hk]
          rfl
      · have n2 : twoB s k 123 45 = false := by
          simp only [twoB]
          by_cases h' : k + 1 < s.size
          · rw [if_pos h'] at hb2
            simp [← hb2, e]
          · simp [h']
        exact hR _ _ _ (by simp [gapE, nb, comB, n1, n2, hk]) (by simp [gapF, comB, n1, n2])
    · have n2 : twoB s k 123 45 = false := by
        have : ¬ btF s k = 123 := by ((try simp only [wf, nc, nc'] at *); (try simp (disch := omega) only [w64, w32, wu8] at *)); omega
        simp [twoB, this]
      exact hR _ _ _ (by simp [gapE, nb, comB, n1, n2, hk]) (by simp [gapF, comB, n1, n2])
end Go.VM
