/- Contracts of the functions that the law reaches: part of the proof (X10). -/
import Derived.Test.YtcpdnjehmnbheaaDoorX9
namespace Go.VM
open Go.Proofs Go
set_option maxRecDepth 100000
set_option linter.unusedVariables false
set_option linter.unusedSimpArgs false

def hp5 (s : ByteArray) (i : Int) : AHeap := [.box [.d (.str s)], .box [.d (.int .i64 i)], .box [.d (.int .i64 0), .d (.str ⟨#[]⟩), .d (.int .i64 0), .d (.bool false), .d (.int .i64 0)],
  .box [.d (.int .i64 0), .d (.int .i64 0)], .box [.d (.int .i64 0), .d (.str ⟨#[]⟩), .d (.int .i64 i)]]

theorem f62 (s w : ByteArray) (i : Int) (k : Nat) (hk : i = k) (h1 : k ≤ s.size) : VCalls (P ()) 62 [.d (.str w), .ptr 0 0, .ptr 1 0] (hp5 s i) (fun r H => H = hp5 s i ∧ ∃ b, b = preB (s.extract k s.size) w ∧ r = .d (.bool b)) := by
  refine VCalls_of_W (Tf := @T) @tabOk Tryd.func62 rfl (Nat.le_of_ble_eq_true rfl) @fun ⟨_, _, _, _, _, _, _, _, _, _, _, _, _, _, _, _, _, _, _, _, _, _, _, _, _, _, _, _, _, _, _, _, _, _, _, _, _, _, wp, wf⟩ n R hn hR => ?_
  cbv
  try simp only [wp, getL, takeL, dropL, TK.isAgg, reduceIte]
  replace hR := fun b h => hR (.d (.bool b)) _ ⟨rfl, b, h, rfl⟩
  have ht : s.extract i.toNat (s.size : Int).toNat = s.extract k s.size := by rw [hk]; simp
  refine ⟨(by (try simp only [wf, nc, nc'] at *); (try simp (disch := omega) only [w64, w32, wu8] at *); omega), (by (try simp only [wf, nc, nc'] at *); (try simp (disch := omega) only [w64, w32, wu8] at *); omega), ?_⟩
  refine (f63 _ _).call ?_
  rintro _ ⟨b, hb, rfl⟩
  (cbv; try simp only [wp, getL, takeL, dropL, TK.isAgg, reduceIte])
  exact hR _ (by ((try simp only [wf, nc, nc'] at *); (try simp (disch := omega) only [w64, w32, wu8] at *)); rw [hb, ht])
/-- the first of the first n that begins at a place -/
def signF (f : Nat → ByteArray) (t : ByteArray) : Nat → Nat → Int
  | _, 0 => -1
  | j, n + 1 => if preB t (f j) then j else signF f t (j + 1) n
theorem f60 (s : ByteArray) (i : Int) (k : Nat) (f : Nat → ByteArray) (hk : i = k) (h1 : k ≤ s.size) : VCalls (P ()) 60 [.d (.sl 17 1 (strsG f)), .clo 62 [] [.ptr 0 0, .ptr 1 0]] (hp5 s i) (fun r H => H = hp5 s i ∧ ∃ x, x = signF f (s.extract k s.size) 0 17 ∧ r = .d (.int .i64 x)) := by
  refine VCalls_of_W (Tf := @T) @tabOk Tryd.func60 rfl (Nat.le_of_ble_eq_true rfl) @fun ⟨_, _, _, _, _, _, _, _, _, _, _, _, _, _, _, _, _, _, _, _, _, _, _, _, _, _, _, _, _, _, _, _, _, _, _, _, _, _, wp, wf⟩ n R hn hR => ?_
  cbv
  try simp only [wp, getL, takeL, dropL, TK.isAgg, reduceIte]
  replace hR := fun b h => hR (.d (.int .i64 b)) _ ⟨rfl, b, h, rfl⟩
  subst hn
  obtain ⟨t, ht⟩ : ∃ t, t = s.extract k s.size := ⟨_, rfl⟩
  rw [← ht] at hR
  refine loopV (Tf := @T) @tabOk (fun j : Nat => ⟨mk 19 [(0, .d (.sl 17 1 (strsG f))), (1, .clo 62 [] [.ptr 0 0, .ptr 1 0]), (6, .d (.sl 17 1 (strsG f))), (7, .d (.int .i64 17)), (8, .d (.int .i64 j))], hp5 s i⟩) (fun j => 17 - j) (fun j => j ≤ 17 ∧ signF f t j (17 - j) = signF f t 0 17) 0 ⟨by omega, rfl⟩ ?_ (fun i => rfl) @fun ⟨_, _, _, _, _, _, _, _, _, _, _, _, _, _, _, _, _, _, _, _, _, _, _, _, _, _, _, _, _, _, _, _, _, _, _, _, _, _, wpa, wfa⟩ j Bk hj hBk => ?_
  · (cbv; try simp only [wf, exD, exL, exT, exB, exA, leLs, leL_d, leL_undef, deq_refl, deq_int, deq_bool, deq_str, and_true, true_and, AObj.iter.injEq, nc, nc']; try simp (disch := omega) only [w64, w32, wu8])
    exact ⟨rfl, rfl⟩
  (cbv; try simp only [wp, wpa, getL, takeL, dropL, TK.isAgg, reduceIte])
  obtain ⟨j1, j2⟩ := hj
  have hu : j < 17 → signF f t j (17 - j) = if preB t (f j) then (j : Int) else signF f t (j + 1) (17 - (j + 1)) := fun h => by
    rw [show 17 - j = 17 - (j + 1) + 1 by omega]
    rfl
  refine ⟨fun e => ⟨(by (try simp only [wf, wfa, nc, nc'] at *); (try simp (disch := omega) only [w64, w32, wu8] at *); omega), (by (try simp only [wf, wfa, nc, nc'] at *); (try simp (disch := omega) only [w64, w32, wu8] at *); omega), ?_⟩, fun e => ?_⟩
  · have hlt : j < 17 := (by (try simp only [wf, wfa, nc, nc'] at *); (try simp (disch := omega) only [w64, w32, wu8] at *); omega)
    refine CallW.of (f62 s _ i k hk h1) ?_
    rintro _ _ ⟨rfl, b, hb, rfl⟩
    rw [← ht] at hb
    replace hb : b = preB t (f j) := by ((try simp only [wf, wfa, nc, nc'] at *); (try simp (disch := omega) only [w64, w32, wu8] at *)); rw [hb]; simp
    cases b <;> (cbv; try simp only [wp, wpa, getL, takeL, dropL, TK.isAgg, reduceIte])
    · refine hBk (j + 1) _ (by omega) ⟨by omega, by rw [← j2, hu hlt, ← hb]; rfl⟩ ?_
      (cbv; try simp only [wf, wfa, exD, exL, exT, exB, exA, leLs, leL_d, leL_undef, deq_refl, deq_int, deq_bool, deq_str, and_true, true_and, AObj.iter.injEq, nc, nc']; try simp (disch := omega) only [w64, w32, wu8])
      omega
    · apply hR
      rw [← j2, hu hlt, ← hb]
      rfl
  · apply hR
    have : j = 17 := (by (try simp only [wf, wfa, nc, nc'] at *); (try simp (disch := omega) only [w64, w32, wu8] at *); omega)
    rw [← j2, this]
    rfl
end Go.VM
