/- Contracts of the functions that the law reaches: part of the proof (X9). -/
import Derived.Test.YtcpdnjehmnbheaaDoorX8
namespace Go.VM
open Go.Proofs Go
set_option maxRecDepth 100000
set_option linter.unusedVariables false
set_option linter.unusedSimpArgs false

theorem small (s : ByteArray) (h : s.data.toList.all (fun b => b.toNat < 128) = true) : ∀ (j : Nat) b, s.data.toList[j]? = some b → b.toNat < 128 := fun j b hb => by
  have := List.all_eq_true.1 h b (List.mem_of_getElem? hb)
  simpa using this

theorem f43 : VFun (P ()) 43 [] (fun r => ∃ f, f = nthS wordsL ∧ r = .d (.sl 24 1 (strsG f))) := by
  refine vfun (Tf := @T) @tabOk Tryd.func43 rfl rfl (Nat.le_of_ble_eq_true rfl) @fun ⟨_, _, _, _, _, _, _, _, _, _, _, _, _, _, _, _, _, _, _, _, _, _, _, _, _, _, _, _, _, _, _, _, _, _, _, _, _, _, wp, wf⟩ R hR => ?_
  cbv
  try simp only [wp, getL, takeL, dropL, TK.isAgg, reduceIte]
  refine (f66 _ wordsL (by kernel_rfl) (by decide) (small _ (by kernel_rfl))).call ?_
  rintro _ rfl
  rw [nth_all 24 rfl]
  generalize hf : nthS wordsL = f
  (cbv; try simp only [wp, getL, takeL, dropL, TK.isAgg, reduceIte])
  exact hR _ _ _ (.d _) ⟨f, hf.symm, rfl⟩
theorem f61 : VFun (P ()) 61 [] (fun r => ∃ f, f = nthS signsL ∧ r = .d (.sl 17 1 (strsG f))) := by
  refine vfun (Tf := @T) @tabOk Tryd.func61 rfl rfl (Nat.le_of_ble_eq_true rfl) @fun ⟨_, _, _, _, _, _, _, _, _, _, _, _, _, _, _, _, _, _, _, _, _, _, _, _, _, _, _, _, _, _, _, _, _, _, _, _, _, _, wp, wf⟩ R hR => ?_
  cbv
  try simp only [wp, getL, takeL, dropL, TK.isAgg, reduceIte]
  refine (f66 _ signsL (by kernel_rfl) (by decide) (small _ (by kernel_rfl))).call ?_
  rintro _ rfl
  rw [nth_all 17 rfl]
  generalize hf : nthS signsL = f
  (cbv; try simp only [wp, getL, takeL, dropL, TK.isAgg, reduceIte])
  exact hR _ _ _ (.d _) ⟨f, hf.symm, rfl⟩

/-- the first place at which f is s, or -1 -/
def idxF (f : Nat → ByteArray) (s : ByteArray) : Nat → Nat → Int
  | _, 0 => -1
  | i, n + 1 => if f i = s then i else idxF f s (i + 1) n
theorem f65 (n : Nat) (f : Nat → ByteArray) (s : ByteArray) (hn : n < 2 ^ 40) : VFun (P ()) 65 [.d (.sl n 1 (strsG f)), .d (.str s)] (fun r => ∃ x, x = idxF f s 0 n ∧ r = .d (.int .i64 x)) := by
  refine vfun (Tf := @T) @tabOk Tryd.func65 rfl rfl (Nat.le_of_ble_eq_true rfl) @fun ⟨_, _, _, _, _, _, _, _, _, _, _, _, _, _, _, _, _, _, _, _, _, _, _, _, _, _, _, _, _, _, _, _, _, _, _, _, _, _, wp, wf⟩ R hR => ?_
  cbv
  try simp only [wp, getL, takeL, dropL, TK.isAgg, reduceIte]
  replace hR := fun b H h => hR _ H _ (.d (.int .i64 b)) ⟨b, h, rfl⟩
  refine loopV (Tf := @T) @tabOk (fun i : Nat => ⟨mk 19 [(0, .d (.sl n 1 (strsG f))), (1, .d (.str s)), (6, .d (.sl n 1 (strsG f))), (7, .d (.int .i64 n)), (8, .d (.int .i64 i))], []⟩) (fun i => n - i) (fun i => i ≤ n ∧ idxF f s i (n - i) = idxF f s 0 n) 0 ⟨by omega, rfl⟩ ?_ (fun i => rfl) @fun ⟨_, _, _, _, _, _, _, _, _, _, _, _, _, _, _, _, _, _, _, _, _, _, _, _, _, _, _, _, _, _, _, _, _, _, _, _, _, _, wpa, wfa⟩ i Bk hi hBk => ?_
  · (cbv; try simp only [wf, exD, exL, exT, exB, exA, leLs, leL_d, leL_undef, deq_refl, deq_int, deq_bool, deq_str, and_true, true_and, AObj.iter.injEq, nc, nc']; try simp (disch := omega) only [w64, w32, wu8])
    rfl
  (cbv; try simp only [wp, wpa, getL, takeL, dropL, TK.isAgg, reduceIte])
  obtain ⟨h1, h2⟩ := hi
  have hu : i < n → idxF f s i (n - i) = if f i = s then (i : Int) else idxF f s (i + 1) (n - (i + 1)) := fun h => by
    rw [show n - i = n - (i + 1) + 1 by omega]
    rfl
  refine ⟨fun e => ⟨(by (try simp only [wf, wfa, nc, nc'] at *); (try simp (disch := omega) only [w64, w32, wu8] at *); omega), (by (try simp only [wf, wfa, nc, nc'] at *); (try simp (disch := omega) only [w64, w32, wu8] at *); omega), fun c => ?_, fun c => ?_⟩, fun e => ?_⟩
  · apply hR
    have hlt : i < n := (by (try simp only [wf, wfa, nc, nc'] at *); (try simp (disch := omega) only [w64, w32, wu8] at *); omega)
    have c : s = f i := by ((try simp only [wf, wfa, nc, nc'] at *); (try simp (disch := omega) only [w64, w32, wu8] at *)); simpa using c
    rw [← h2, hu hlt, if_pos c.symm]
    ((try simp only [wf, wfa, nc, nc'] at *); (try simp (disch := omega) only [w64, w32, wu8] at *))
  · have hlt : i < n := (by (try simp only [wf, wfa, nc, nc'] at *); (try simp (disch := omega) only [w64, w32, wu8] at *); omega)
    have c : ¬ s = f i := by ((try simp only [wf, wfa, nc, nc'] at *); (try simp (disch := omega) only [w64, w32, wu8] at *)); simpa using c
    refine hBk (i + 1) _ (by omega) ⟨by omega, by rw [← h2, hu hlt, if_neg (fun h => c h.symm)]⟩ ?_
    (cbv; try simp only [wf, wfa, exD, exL, exT, exB, exA, leLs, leL_d, leL_undef, deq_refl, deq_int, deq_bool, deq_str, and_true, true_and, AObj.iter.injEq, nc, nc']; try simp (disch := omega) only [w64, w32, wu8])
    omega
  · apply hR
    have hlt : i = n := (by (try simp only [wf, wfa, nc, nc'] at *); (try simp (disch := omega) only [w64, w32, wu8] at *); omega)
    rw [← h2, hlt, Nat.sub_self]
    rfl

theorem idx_among (f : Nat → ByteArray) (s : ByteArray) : ∀ (n i : Nat), (0 ≤ idxF f s i n ∧ amongF f s i n = true) ∨ (idxF f s i n < 0 ∧ amongF f s i n = false)
  | 0, i => .inr ⟨by show (-1 : Int) < 0; decide, rfl⟩
  | n + 1, i => by
    unfold idxF amongF
    by_cases h : f i = s
    · simp [h]
    · simpa [h] using idx_among f s n (i + 1)
theorem f42 (n : Nat) (f : Nat → ByteArray) (s : ByteArray) (hn : n < 2 ^ 40) : VFun (P ()) 42 [.d (.sl n 1 (strsG f)), .d (.str s)] (fun r => ∃ b, b = amongF f s 0 n ∧ r = .d (.bool b)) := by
  refine vfun (Tf := @T) @tabOk Tryd.func42 rfl rfl (Nat.le_of_ble_eq_true rfl) @fun ⟨_, _, _, _, _, _, _, _, _, _, _, _, _, _, _, _, _, _, _, _, _, _, _, _, _, _, _, _, _, _, _, _, _, _, _, _, _, _, wp, wf⟩ R hR => ?_
  cbv
  try simp only [wp, getL, takeL, dropL, TK.isAgg, reduceIte]
  replace hR := fun b H h => hR _ H _ (.d (.bool b)) ⟨b, h, rfl⟩
  refine (f65 n f s hn).call ?_
  rintro _ ⟨x, hx, rfl⟩
  (cbv; try simp only [wp, getL, takeL, dropL, TK.isAgg, reduceIte])
  rcases idx_among f s n 0 with ⟨h1, h2⟩ | ⟨h1, h2⟩
  · exact ⟨fun _ => hR _ _ h2.symm, fun h => absurd h (by omega)⟩
  · exact ⟨fun h => absurd h (by omega), fun _ => hR _ _ h2.symm⟩
theorem f25 (s : ByteArray) : VFun (P ()) 25 [.d (.str s)] (fun r => ∃ b, b = wordB s ∧ r = .d (.bool b)) := by
  refine vfun (Tf := @T) @tabOk Tryd.func25 rfl rfl (Nat.le_of_ble_eq_true rfl) @fun ⟨_, _, _, _, _, _, _, _, _, _, _, _, _, _, _, _, _, _, _, _, _, _, _, _, _, _, _, _, _, _, _, _, _, _, _, _, _, _, wp, wf⟩ R hR => ?_
  cbv
  try simp only [wp, getL, takeL, dropL, TK.isAgg, reduceIte]
  replace hR := fun b H h => hR _ H _ (.d (.bool b)) ⟨b, h, rfl⟩
  refine f43.call ?_
  rintro _ ⟨f, hf, rfl⟩
  (cbv; try simp only [wp, getL, takeL, dropL, TK.isAgg, reduceIte])
  refine (f42 24 f s (by decide)).call ?_
  rintro _ ⟨b, hb, rfl⟩
  (cbv; try simp only [wp, getL, takeL, dropL, TK.isAgg, reduceIte])
  exact hR _ _ (by rw [hb, hf]; rfl)
end Go.VM
