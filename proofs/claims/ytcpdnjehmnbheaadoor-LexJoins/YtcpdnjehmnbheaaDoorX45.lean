/- Part of the proof: X45. -/
import Derived.Test.YtcpdnjehmnbheaaDoorX44
import Derived.Test.YtcpdnjehmnbheaaDoorX30
namespace Go.VM
open Go.Proofs Go
set_option maxRecDepth 100000
set_option linter.unusedVariables false
set_option linter.unusedSimpArgs false

set_option maxHeartbeats 1000000 in
theorem f8 (m : Nat) (K O : Nat → Int) (S : Nat → ByteArray) (hm : m < 2 ^ 63) : VFun (P ()) 8 [.d (.sl m 3 (tokF K S O))] (fun r => r = .d (.bool true)) := by
  refine vfunO (Tf := @T) @tabOk [] 400 Tryd.func8 rfl (fun {_} => by kernel_rfl) rfl (Nat.le_of_ble_eq_true rfl) @fun ⟨_, _, _, _, _, _, _, _, _, _, _, _, _, _, _, _, _, _, _, _, _, _, _, _, _, _, _, _, _, _, _, _, _, _, _, _, _, _, wp, wf⟩ R hR => ?_
  cbv
  try simp only [wp, getL, takeL, dropL, TK.isAgg, reduceIte]
  replace hR := fun H => hR _ H _ (.d _) rfl
  refine (f16 m K O S hm).call ?_
  rintro _ ⟨b, hb, rfl⟩
  cases b <;> (cbv; try simp only [wp, getL, takeL, dropL, TK.isAgg, reduceIte])
  · (refine Later.mk ?_; cbv; try simp only [wp, getL, takeL, dropL, TK.isAgg, reduceIte])
    exact hR _
  · have hf := hb.1 rfl
    obtain ⟨hf1, hf2⟩ := hf
    (refine Later.mk ?_; cbv; try simp only [wp, getL, takeL, dropL, TK.isAgg, reduceIte])
    refine (f17 m K O S (by omega) (fun i hi => by have := hf2 i hi; omega)).call ?_
    rintro _ ⟨t, e, h1, h2, rfl⟩
    (cbv; try simp only [wp, getL, takeL, dropL, TK.isAgg, reduceIte])
    refine (f18 m K O S (by omega) (fun i hi => by have := hf2 i hi; omega)).call ?_
    rintro _ ⟨t', e', h1', h2', rfl⟩
    obtain ⟨j1, j2⟩ := joinS_law K S m
    rw [j1] at h1' h2'
    obtain ⟨X, hX⟩ : ∃ X, X = joinS K S m (sepP K S) := ⟨_, rfl⟩
    rw [← hX] at h1 h2 h1' h2' j2
    cases X with
    | none =>
      obtain ⟨rfl, rfl⟩ := h1 rfl
      obtain ⟨rfl, rfl⟩ := h1' rfl
      clear h1 h2 h1' h2' j1 j2
      (cbv; try simp only [wp, getL, takeL, dropL, TK.isAgg, reduceIte])
      repeat' first | (with_reducible refine And.intro ?_ ?_) | (intro c9)
      all_goals first
        | exact (by (try simp only [wf, nc, nc', Int.toNat_natCast] at *); (try simp (disch := omega) only [w64, w32, wu8] at *); omega)
        | trivial
        | (exfalso; first | exact absurd rfl c9 | (simp at c9; done) | (cases c9; done))
        | ((refine Later.mk ?_; cbv; try simp only [wp, getL, takeL, dropL, TK.isAgg, reduceIte])
           repeat' first | (with_reducible refine And.intro ?_ ?_) | (intro c9)
           all_goals first
             | exact (by (try simp only [wf, nc, nc', Int.toNat_natCast] at *); (try simp (disch := omega) only [w64, w32, wu8] at *); omega)
             | trivial
             | (exfalso; first | exact absurd rfl c9 | (simp at c9; done) | (cases c9; done))
             | ((refine Later.mk ?_; cbv; try simp only [wp, getL, takeL, dropL, TK.isAgg, reduceIte])
                refine f13.call ?_
                rintro _ rfl
                (cbv; try simp only [wp, getL, takeL, dropL, TK.isAgg, reduceIte])
                exact hR _))
    | some u =>
      obtain ⟨rfl, rfl⟩ := h2 _ rfl
      obtain ⟨rfl, rfl⟩ := h2' _ rfl
      obtain ⟨k1, k2⟩ := j2 _ rfl
      clear h1 h2 h1' h2' j1 j2
      (cbv; try simp only [wp, getL, takeL, dropL, TK.isAgg, reduceIte])
      repeat' first | (with_reducible refine And.intro ?_ ?_) | (intro c9)
      all_goals first
        | exact (by (try simp only [wf, nc, nc', Int.toNat_natCast] at *); (try simp (disch := omega) only [w64, w32, wu8] at *); omega)
        | trivial
        | (exfalso; first | exact absurd rfl c9 | (simp at c9; done) | (cases c9; done))
        | ((refine Later.mk ?_; cbv; try simp only [wp, getL, takeL, dropL, TK.isAgg, reduceIte])
           repeat' first | (with_reducible refine And.intro ?_ ?_) | (intro c9)
           all_goals first
             | exact (by (try simp only [wf, nc, nc', Int.toNat_natCast] at *); (try simp (disch := omega) only [w64, w32, wu8] at *); omega)
             | trivial
             | (exfalso; first | exact absurd rfl c9 | (simp at c9; done) | (cases c9; done))
             | ((refine Later.mk ?_; cbv; try simp only [wp, getL, takeL, dropL, TK.isAgg, reduceIte])
                have hz := (split_toks t' k1).2.1
                refine (f10 t' (by omega)).call ?_
                rintro _ ⟨n2, c2, a2, Kt, St, Ot, e1, e2, e3, e4, e5, e6, rfl⟩
                have hc : c2 = 0 := e2.trans k1
                have hal : (decide (n2 = m) && Tk.alike ⟨Kt, St, Ot⟩ ⟨K, S, O⟩ n2) = true := by
                  rw [e1, e4, e5, map_kt_iff]
                  exact k2
                have hl := split_len t'
                rw [← e1] at hl
                subst hc
                clear e1 e2 e3 e4 e5 e6 k1 k2
                (cbv; try simp only [wp, getL, takeL, dropL, TK.isAgg, reduceIte])
                refine ⟨fun _ => ?_, fun c9 => absurd trivial c9⟩
                refine (f15 _ _ _ _ _ _ _ _ (by omega) (by omega)).call ?_
                rintro _ ⟨b, hb2, rfl⟩
                replace hb2 : b = true := hb2.trans hal
                subst hb2
                (cbv; try simp only [wp, getL, takeL, dropL, TK.isAgg, reduceIte])
                repeat' first | (with_reducible refine And.intro ?_ ?_) | (intro c9)
                all_goals first
                  | exact (by (try simp only [wf, nc, nc', Int.toNat_natCast] at *); (try simp (disch := omega) only [w64, w32, wu8] at *); omega)
                  | trivial
                  | (refine f13.call ?_
                     rintro _ rfl
                     (cbv; try simp only [wp, getL, takeL, dropL, TK.isAgg, reduceIte])
                     exact hR _)
                  | (exfalso; first | exact absurd rfl c9 | (simp at c9; done) | (cases c9; done))))
end Go.VM
