/- Contracts of the functions that the law reaches: part of the proof (X16). -/
import Derived.Test.YtcpdnjehmnbheaaDoorX15
namespace Go.VM
open Go.Proofs Go
set_option maxRecDepth 100000
set_option linter.unusedVariables false
set_option linter.unusedSimpArgs false

structure Tk where
  K : Nat → Int
  S : Nat → ByteArray
  O : Nat → Int
def Tk.eqAt (a b : Tk) (i j : Nat) : Bool := a.K i == b.K j && decide (a.S i = b.S j) && a.O i == b.O j
/-- the first n tokens are the same -/
def Tk.same (a b : Tk) : Nat → Bool
  | 0 => true
  | n + 1 => a.same b n && a.eqAt b n n

theorem f12 (n m : Nat) (K K' O O' : Nat → Int) (S S' : Nat → ByteArray) (hn : n < 2 ^ 40) (hm : m < 2 ^ 40) : VFun (P ()) 12 [.d (.sl n 3 (tokF K S O)), .d (.sl m 3 (tokF K' S' O'))] (fun r => ∃ b : Bool, b = (decide (n = m) && Tk.same ⟨K, S, O⟩ ⟨K', S', O'⟩ n) ∧ r = .d (.bool b)) := by
  refine vfun (Tf := @T) @tabOk Tryd.func12 rfl rfl (Nat.le_of_ble_eq_true rfl) @fun ⟨_, _, _, _, _, _, _, _, _, _, _, _, _, _, _, _, _, _, _, _, _, _, _, _, _, _, _, _, _, _, _, _, _, _, _, _, _, _, wp, wf⟩ R hR => ?_
  cbv
  try simp only [wp, getL, takeL, dropL, TK.isAgg, reduceIte]
  replace hR := fun b H h => hR _ H _ (.d (.bool b)) ⟨b, h, rfl⟩
  refine ⟨fun h => ?_, fun h => ?_⟩
  · have h : ¬ n = m := (by (try simp only [wf, nc, nc'] at *); (try simp (disch := omega) only [w64, w32, wu8] at *); omega)
    exact hR _ _ (by simp [h])
  · have h : n = m := (by (try simp only [wf, nc, nc'] at *); (try simp (disch := omega) only [w64, w32, wu8] at *); omega)
    subst h
    refine loopV (Tf := @T) @tabOk (fun i : Nat => ⟨mk 26 [(0, .d (.sl n 3 (tokF K S O))), (1, .d (.sl n 3 (tokF K' S' O'))), (5, .d (.int .i64 i))], []⟩) (fun i => n - i) (fun i => i ≤ n ∧ Tk.same ⟨K, S, O⟩ ⟨K', S', O'⟩ i = true) 0 ⟨by omega, rfl⟩ ?_ (fun i => rfl) @fun ⟨_, _, _, _, _, _, _, _, _, _, _, _, _, _, _, _, _, _, _, _, _, _, _, _, _, _, _, _, _, _, _, _, _, _, _, _, _, _, wpa, wfa⟩ i Bk hi hBk => ?_
    · (cbv; try simp only [wf, exD, exL, exT, exB, exA, leLs, leL_d, leL_undef, deq_refl, deq_int, deq_bool, deq_str, and_true, true_and, AObj.iter.injEq, nc, nc']; try simp (disch := omega) only [w64, w32, wu8])
      rfl
    (cbv; try simp only [wp, wpa, getL, takeL, dropL, TK.isAgg, reduceIte])
    obtain ⟨y1, y2⟩ := hi
    obtain ⟨i2, hi2⟩ : ∃ i2, i2 = i + 1 := ⟨_, rfl⟩
    refine ⟨fun e0 => ?_, fun e0 => ?_⟩
    · have e0 : i < n := (by (try simp only [wf, wfa, nc, nc'] at *); (try simp (disch := omega) only [w64, w32, wu8] at *); omega)
      have mono : ∀ (a b : Tk) k n, a.same b (n + k) = true → a.same b n = true := fun a b k => by
        induction k with
        | zero => exact fun n h => h
        | succ k ih => exact fun n h => ih n (by have h : (a.same b (n + k) && a.eqAt b (n + k) (n + k)) = true := h; simp at h; exact h.1)
      have bk : Tk.eqAt ⟨K, S, O⟩ ⟨K', S', O'⟩ i i = true → ∀ s', leS 0 ⟨mk 26 [(0, .d (.sl n 3 (tokF K S O))), (1, .d (.sl n 3 (tokF K' S' O'))), (5, .d (.int .i64 i2))], []⟩ s' → Bk s' := fun h s' hle => hBk i2 s' (by omega) ⟨by omega, by rw [hi2, Tk.same, y2, h]; rfl⟩ hle
      have leaf : Tk.eqAt ⟨K, S, O⟩ ⟨K', S', O'⟩ i i = false → ∀ H, R (A.d (D.bool false)) H := fun h H => hR _ _ (by
        have : Tk.same ⟨K, S, O⟩ ⟨K', S', O'⟩ n = false := by
          rw [Bool.eq_false_iff]
          intro hs
          have := mono _ _ (n - (i + 1)) (i + 1) (by rw [show i + 1 + (n - (i + 1)) = n by omega]; exact hs)
          rw [Tk.same, h] at this
          simp at this
        rw [this]; simp)
      repeat' first | with_reducible refine And.intro ?_ ?_ | intro c9
      all_goals first
        | exact (by (try simp only [wf, wfa, nc, nc'] at *); (try simp (disch := omega) only [w64, w32, wu8] at *); omega)
        | trivial
        | (refine bk (by ((try simp only [wf, wfa, nc, nc'] at *); (try simp (disch := omega) only [w64, w32, wu8] at *)); simp only [Int.toNat_natCast] at *; simp [Tk.eqAt, *]) _ ?_; (cbv; try simp only [wf, wfa, exD, exL, exT, exB, exA, leLs, leL_d, leL_undef, deq_refl, deq_int, deq_bool, deq_str, and_true, true_and, AObj.iter.injEq, nc, nc']; try simp (disch := omega) only [w64, w32, wu8]); omega)
        | (refine leaf (by ((try simp only [wf, wfa, nc, nc'] at *); (try simp (disch := omega) only [w64, w32, wu8] at *)); simp only [Int.toNat_natCast] at *; simp [Tk.eqAt, *]) _)
    · have e0 : i = n := (by (try simp only [wf, wfa, nc, nc'] at *); (try simp (disch := omega) only [w64, w32, wu8] at *); omega)
      refine hR _ _ ?_
      rw [← e0, y2]; simp
theorem awakeS : splitS ⟨#[112, 46, 49]⟩ = ([{ kind := 1, text := ⟨#[112]⟩, pos := 0, fin := 1 }, { kind := 4, text := ⟨#[46]⟩, pos := 1, fin := 2 }, { kind := 3, text := ⟨#[49]⟩, pos := 2, fin := 3 }], [], 0, 0) := by
  kernel_rfl
theorem awakeW : wordB ⟨#[100, 101, 102]⟩ = true := by kernel_rfl
theorem f13 : VFun (P ()) 13 [] (fun r => r = .d (.bool true)) := by
  refine vfun (Tf := @T) @tabOk Tryd.func13 rfl rfl (Nat.le_of_ble_eq_true rfl) @fun ⟨_, _, _, _, _, _, _, _, _, _, _, _, _, _, _, _, _, _, _, _, _, _, _, _, _, _, _, _, _, _, _, _, _, _, _, _, _, _, wp, wf⟩ R hR => ?_
  cbv
  try simp only [wp, getL, takeL, dropL, TK.isAgg, reduceIte]
  refine (f10 _ (by decide)).call ?_
  rintro _ ⟨n, c, a, K, S, O, h1, h2, h3, h4, h5, h6, rfl⟩
  rw [awakeS] at h1 h2 h3 h4 h5 h6
  dsimp only [List.length] at h1 h2 h3
  subst h1 h2 h3
  have k1 : K 1 = 4 := by rw [h4]; rfl
  have s2 : S 2 = ⟨#[49]⟩ := by rw [h5]; rfl
  clear h4 h5 h6
  (cbv; try simp only [wp, getL, takeL, dropL, TK.isAgg, reduceIte])
  repeat' first | with_reducible refine And.intro ?_ ?_ | intro c9
  all_goals first
    | exact (by (try simp only [wf, nc, nc'] at *); (try simp (disch := omega) only [w64, w32, wu8] at *); omega)
    | trivial
    | (exfalso; apply c9; (simp only [wf, nc, nc', Int.toNat_natCast, Int.toNat_one, show (2 : Int).toNat = 2 from rfl, k1, s2]); done)
    | (exfalso; apply c9; (simp only [wf, nc, nc', Int.toNat_natCast, Int.toNat_one, show (2 : Int).toNat = 2 from rfl, k1, s2]); rfl)
    | (refine (f25 _).call ?_
       rintro _ ⟨b, hb, rfl⟩
       rw [awakeW] at hb
       subst hb
       (cbv; try simp only [wp, getL, takeL, dropL, TK.isAgg, reduceIte])
       exact hR _ _ _ (.d _) rfl)
theorem run_len (s : ByteArray) : ∀ (f k : Nat) (T : List Nx) (C : List (Int × Int)), k ≤ s.size → T.length ≤ k → (runT s f k T C).1.length ≤ s.size
  | 0, k, T, C, h1, h2 => by simp [runT]; omega
  | f + 1, k, T, C, h1, h2 => by
    unfold runT
    split
    · rename_i hk
      have := next_fin s k hk
      split
      · simp
      · rename_i hc
        have := this.resolve_left hc
        split
        · exact run_len s f _ _ _ (by omega) (by omega)
        · split
          · split
            · simp
            · exact run_len s f _ _ _ (by omega) (by simp; omega)
          · exact run_len s f _ _ _ (by omega) (by omega)
    · simp; omega
theorem split_len (s : ByteArray) : (splitS s).1.length ≤ s.size := by
  unfold splitS
  split
  · simp
  · exact run_len s _ _ _ _ (by omega) (by simp)
theorem same_refl (a : Tk) : ∀ n, a.same a n = true
  | 0 => rfl
  | n + 1 => by simp [Tk.same, same_refl a n, Tk.eqAt]
theorem f3 (s : ByteArray) : VFun (P ()) 3 [.d (.str s)] (fun r => r = .d (.bool true)) := by
  refine vfun (Tf := @T) @tabOk Tryd.func3 rfl rfl (Nat.le_of_ble_eq_true rfl) @fun ⟨_, _, _, _, _, _, _, _, _, _, _, _, _, _, _, _, _, _, _, _, _, _, _, _, _, _, _, _, _, _, _, _, _, _, _, _, _, _, wp, wf⟩ R hR => ?_
  cbv
  try simp only [wp, getL, takeL, dropL, TK.isAgg, reduceIte]
  refine ⟨fun h => hR _ _ _ (.d _) rfl, fun h => ?_⟩
  have hs : s.size < 2 ^ 40 := (by (try simp only [wf, nc, nc'] at *); (try simp (disch := omega) only [w64, w32, wu8] at *); omega)
  refine (f10 _ hs).call ?_
  rintro _ ⟨n, c, a, K, S, O, h1, h2, h3, h4, h5, h6, rfl⟩
  (cbv; try simp only [wp, getL, takeL, dropL, TK.isAgg, reduceIte])
  refine (f11 _ hs).call ?_
  rintro _ ⟨n', c', a', K', S', O', h1', h2', h3', h4', h5', h6', rfl⟩
  rw [← h1] at h1'
  rw [← h2] at h2'
  rw [← h3] at h3'
  rw [← h4] at h4'
  rw [← h5] at h5'
  rw [← h6] at h6'
  subst h1' h2' h3' h4' h5' h6'
  have hl := split_len s
  rw [← h1] at hl
  (cbv; try simp only [wp, getL, takeL, dropL, TK.isAgg, reduceIte])
  refine (f12 _ _ _ _ _ _ _ _ (by omega) (by omega)).call ?_
  rintro _ ⟨b, hb, rfl⟩
  replace hb : b = true := by rw [hb, same_refl]; simp
  subst hb
  (cbv; try simp only [wp, getL, takeL, dropL, TK.isAgg, reduceIte])
  repeat' first | with_reducible refine And.intro ?_ ?_ | intro c9
  all_goals first
    | exact (by (try simp only [wf, nc, nc'] at *); (try simp (disch := omega) only [w64, w32, wu8] at *); omega)
    | trivial
    | (refine f13.call ?_
       rintro _ rfl
       (cbv; try simp only [wp, getL, takeL, dropL, TK.isAgg, reduceIte])
       exact hR _ _ _ (.d _) rfl)
    | (exfalso; first | exact absurd rfl c9 | (simp at c9; done) | (cases c9; done))
end Go.VM
