/- Part of the proof: X26. -/
import Derived.Test.YtcpdnjehmnbheaaDoorX25
import Derived.Test.YtcpdnjehmnbheaaDoorVG2
namespace Go.VM
open Go.Proofs Go
set_option maxRecDepth 100000
set_option linter.unusedVariables false
set_option linter.unusedSimpArgs false

def Tk.ktAt (a b : Tk) (i : Nat) : Bool := a.K i == b.K i && decide (a.S i = b.S i)
/-- the first n tokens are alike in kind and text -/
def Tk.alike (a b : Tk) : Nat → Bool
  | 0 => true
  | n + 1 => a.alike b n && a.ktAt b n
theorem alike_mono (a b : Tk) (n : Nat) : ∀ k, a.alike b (n + k) = true → a.alike b n = true
  | 0, h => h
  | k + 1, h => by
    have h : (a.alike b (n + k) && a.ktAt b (n + k)) = true := h
    simp at h
    exact alike_mono a b n k h.1
theorem alike_no (a b : Tk) (n i : Nat) (hi : i < n) (h : a.ktAt b i = false) : a.alike b n = false := by
  rw [Bool.eq_false_iff]
  intro hs
  have := alike_mono a b (i + 1) (n - (i + 1)) (by rw [show i + 1 + (n - (i + 1)) = n by omega]; exact hs)
  rw [Tk.alike, h] at this
  simp at this
theorem alike_of (a b : Tk) : ∀ n, (∀ i, i < n → a.ktAt b i = true) → a.alike b n = true
  | 0, _ => rfl
  | n + 1, h => by simp [Tk.alike, alike_of a b n (fun i hi => h i (by omega)), h n (by omega)]

theorem f15 (n m : Nat) (K K' O O' : Nat → Int) (S S' : Nat → ByteArray) (hn : n < 2 ^ 40) (hm : m < 2 ^ 40) : VFun (P ()) 15 [.d (.sl n 3 (tokF K S O)), .d (.sl m 3 (tokF K' S' O'))] (fun r => ∃ b : Bool, b = (decide (n = m) && Tk.alike ⟨K, S, O⟩ ⟨K', S', O'⟩ n) ∧ r = .d (.bool b)) := by
  refine vfunO (Tf := @T) @tabOk [(6, upF 0 24)] 400 Tryd.func15 rfl (fun {_} => by kernel_rfl) rfl (Nat.le_of_ble_eq_true rfl) @fun ⟨_, _, _, _, _, _, _, _, _, _, _, _, _, _, _, _, _, _, _, _, _, _, _, _, _, _, _, _, _, _, _, _, _, _, _, _, _, _, wp, wf⟩ R hR => ?_
  cbv
  try simp only [wp, getL, takeL, dropL, TK.isAgg, reduceIte]
  replace hR := fun b H h => hR _ H _ (.d (.bool b)) ⟨b, h, rfl⟩
  refine ⟨fun h => ?_, fun h => ?_⟩
  · have h : ¬ n = m := (by (try simp only [wf, nc, nc', Int.toNat_natCast] at *); (try simp (disch := omega) only [w64, w32, wu8] at *); omega)
    (refine Later.mk ?_; cbv; try simp only [wp, getL, takeL, dropL, TK.isAgg, reduceIte])
    exact hR _ _ (by simp [h])
  · have h : n = m := (by (try simp only [wf, nc, nc', Int.toNat_natCast] at *); (try simp (disch := omega) only [w64, w32, wu8] at *); omega)
    subst h
    (refine Later.mk ?_; cbv; try simp only [wp, getL, takeL, dropL, TK.isAgg, reduceIte])
    refine loopO (Tf := @T) @tabOk [(6, upF 0 24)] 400 (fun i : Nat => ⟨mk 41 [(0, .d (.sl n 3 (tokF K S O))), (1, .d (.sl n 3 (tokF K' S' O'))), (5, .d (.int .i64 i))], []⟩) (fun i => n - i) (fun i => i ≤ n ∧ Tk.alike ⟨K, S, O⟩ ⟨K', S', O'⟩ i = true) 0 ⟨by omega, rfl⟩ (fun {_} => by kernel_rfl) ?_ (fun i => rfl) @fun ⟨_, _, _, _, _, _, _, _, _, _, _, _, _, _, _, _, _, _, _, _, _, _, _, _, _, _, _, _, _, _, _, _, _, _, _, _, _, _, wpa, wfa⟩ i Bk hi hBk => ?_
    · (cbv; try simp only [wf, exD, exL, exT, exB, exA, leLs, leL_d, leL_undef, deq_refl, deq_int, deq_bool, deq_str, and_true, true_and, AObj.iter.injEq, nc, nc']; try simp (disch := omega) only [w64, w32, wu8])
      rfl
    (cbv; try simp only [wp, wpa, getL, takeL, dropL, TK.isAgg, reduceIte])
    obtain ⟨y1, y2⟩ := hi
    obtain ⟨i2, hi2⟩ : ∃ i2, i2 = i + 1 := ⟨_, rfl⟩
    refine ⟨fun e0 => ?_, fun e0 => ?_⟩
    · have e0 : i < n := (by (try simp only [wf, wfa, nc, nc', Int.toNat_natCast] at *); (try simp (disch := omega) only [w64, w32, wu8] at *); omega)
      have bk : Tk.ktAt ⟨K, S, O⟩ ⟨K', S', O'⟩ i = true → ∀ s', leS 0 ⟨mk 41 [(0, .d (.sl n 3 (tokF K S O))), (1, .d (.sl n 3 (tokF K' S' O'))), (5, .d (.int .i64 i2))], []⟩ s' → Bk s' := fun h s' hle => hBk i2 s' (by omega) ⟨by omega, by rw [hi2, Tk.alike, y2, h]; rfl⟩ hle
      have leaf : Tk.ktAt ⟨K, S, O⟩ ⟨K', S', O'⟩ i = false → ∀ H, R (A.d (D.bool false)) H := fun h H => hR _ _ (by rw [alike_no _ _ n i e0 h]; simp)
      (refine Later.mk ?_; cbv; try simp only [wp, wpa, getL, takeL, dropL, TK.isAgg, reduceIte])
      repeat' first | with_reducible refine And.intro ?_ ?_ | intro c9
      all_goals first
        | exact (by (try simp only [wf, wfa, nc, nc', Int.toNat_natCast] at *); (try simp (disch := omega) only [w64, w32, wu8] at *); omega)
        | trivial
        | ((refine Later.mk ?_; cbv; try simp only [wp, wpa, getL, takeL, dropL, TK.isAgg, reduceIte]); exact leaf (by ((try simp only [wf, wfa, nc, nc', Int.toNat_natCast] at *); (try simp (disch := omega) only [w64, w32, wu8] at *)); rw [Bool.eq_false_iff]; intro hc; simp [Tk.ktAt] at hc; first | exact c9 hc.1 | exact c9 hc.2) _)
        | ((refine Later.mk ?_; cbv; try simp only [wp, wpa, getL, takeL, dropL, TK.isAgg, reduceIte]); refine bk (by ((try simp only [wf, wfa, nc, nc', Int.toNat_natCast] at *); (try simp (disch := omega) only [w64, w32, wu8] at *)); simp [Tk.ktAt, *]) _ ?_; (cbv; try simp only [wf, wfa, exD, exL, exT, exB, exA, leLs, leL_d, leL_undef, deq_refl, deq_int, deq_bool, deq_str, and_true, true_and, AObj.iter.injEq, nc, nc']; try simp (disch := omega) only [w64, w32, wu8]); omega)
    · have e0 : i = n := (by (try simp only [wf, wfa, nc, nc', Int.toNat_natCast] at *); (try simp (disch := omega) only [w64, w32, wu8] at *); omega)
      (refine Later.mk ?_; cbv; try simp only [wp, wpa, getL, takeL, dropL, TK.isAgg, reduceIte])
      refine hR _ _ ?_
      rw [← e0, y2]; simp
end Go.VM
