/- Contracts of the functions that the law reaches: part of the proof (X3). -/
import Derived.Test.YtcpdnjehmnbheaaDoorX2
namespace Go.VM
open Go.Proofs
set_option maxRecDepth 100000
set_option linter.unusedVariables false
set_option linter.unusedSimpArgs false

def strsG (f : Nat → ByteArray) (i j : Nat) : D := .str (f i)
def eS : ByteArray := ⟨#[]⟩
def nthS (l : List ByteArray) (i : Nat) : ByteArray := l.getD i eS
/-- the signs, the keywords -/
def signsL : List ByteArray := [⟨#[58, 61]⟩, ⟨#[61, 62]⟩, ⟨#[45, 62]⟩, ⟨#[40]⟩, ⟨#[41]⟩, ⟨#[123]⟩, ⟨#[125]⟩, ⟨#[91]⟩, ⟨#[93]⟩, ⟨#[58]⟩, ⟨#[44]⟩, ⟨#[59]⟩, ⟨#[46]⟩, ⟨#[124]⟩, ⟨#[61]⟩, ⟨#[42]⟩, ⟨#[92]⟩]
def wordsL : List ByteArray := [⟨#[100, 101, 102]⟩, ⟨#[111, 112, 97, 113, 117, 101]⟩, ⟨#[97, 115, 115, 117, 109, 101]⟩, ⟨#[100, 97, 116, 97]⟩, ⟨#[119, 104, 101, 114, 101]⟩, ⟨#[102, 117, 110]⟩, ⟨#[108, 101, 116]⟩, ⟨#[105, 110]⟩, ⟨#[101, 108, 105, 109]⟩, ⟨#[111, 102]⟩, ⟨#[84, 121, 112, 101]⟩, ⟨#[80, 114, 111, 112]⟩, ⟨#[85, 110, 105, 116]⟩, ⟨#[115, 116, 97, 114]⟩, ⟨#[84, 114, 117, 101]⟩, ⟨#[70, 97, 108, 115, 101]⟩, ⟨#[114, 101, 102, 108]⟩, ⟨#[99, 97, 115, 116]⟩, ⟨#[97, 98, 115, 117, 114, 100]⟩, ⟨#[113, 117, 111, 116, 105, 101, 110, 116]⟩, ⟨#[99, 108, 97, 115, 115]⟩, ⟨#[111, 117, 116]⟩, ⟨#[115, 117, 98, 115, 116]⟩, ⟨#[95]⟩]

theorem deq_strs (l : List ByteArray) (n : Nat) (h : n = l.length) : Deq (.sl n 1 (rowF 1 (l.map .str))) (.sl n 1 (strsG (nthS l))) := by
  refine .sl _ _ _ _ fun i j hi hj => .of_eq ?_
  have hj0 : j = 0 := by omega
  subst hj0
  simp [rowF, strsG, nthS, List.getD_eq_getElem?_getD, List.getElem?_map, show i < l.length by omega]

theorem f41 : VFun (P ()) 41 [] (fun r => ∃ f, f = nthS signsL ∧ r = .d (.sl 17 1 (strsG f))) := by
  refine vfun (Tf := @T) @tabOk Tryd.func41 rfl rfl (Nat.le_of_ble_eq_true rfl) @fun ⟨_, _, _, _, _, _, _, _, _, _, _, _, _, _, _, _, _, _, _, _, _, _, _, _, _, _, _, _, _, _, _, _, _, _, _, _, _, _, wp, wf⟩ R hR => ?_
  cbv
  try simp only [wp, getL, takeL, dropL, TK.isAgg, reduceIte]
  rw [show ∀ l, _ = rowF 1 l from wf.2.2.2.2.2.2.2.2.2.2.2.2.2.2.2.2.2.2.2.2.2.2.2.2.2 1]
  exact hR _ _ _ (.deq _ _ _ (.ref0 0 17 1 17 0 _ rfl rfl) (deq_strs signsL 17 rfl)) ⟨_, rfl, rfl⟩
theorem f64 : VFun (P ()) 64 [] (fun r => ∃ f, f = nthS wordsL ∧ r = .d (.sl 24 1 (strsG f))) := by
  refine vfun (Tf := @T) @tabOk Tryd.func64 rfl rfl (Nat.le_of_ble_eq_true rfl) @fun ⟨_, _, _, _, _, _, _, _, _, _, _, _, _, _, _, _, _, _, _, _, _, _, _, _, _, _, _, _, _, _, _, _, _, _, _, _, _, _, wp, wf⟩ R hR => ?_
  cbv
  try simp only [wp, getL, takeL, dropL, TK.isAgg, reduceIte]
  rw [show ∀ l, _ = rowF 1 l from wf.2.2.2.2.2.2.2.2.2.2.2.2.2.2.2.2.2.2.2.2.2.2.2.2.2 1]
  exact hR _ _ _ (.deq _ _ _ (.ref0 0 24 1 24 0 _ rfl rfl) (deq_strs wordsL 24 rfl)) ⟨_, rfl, rfl⟩

/-- is it among the first n -/
def amongF (f : Nat → ByteArray) (s : ByteArray) : Nat → Nat → Bool
  | _, 0 => false
  | i, n + 1 => decide (f i = s) || amongF f s (i + 1) n
theorem amongF_step (f : Nat → ByteArray) (s : ByteArray) (i n : Nat) (h : i < n) : amongF f s i (n - i) = (decide (f i = s) || amongF f s (i + 1) (n - (i + 1))) := by
  rw [show n - i = n - (i + 1) + 1 by omega]
  rfl
def wordB (s : ByteArray) : Bool := amongF (nthS wordsL) s 0 24

theorem f40 (s : ByteArray) : VFun (P ()) 40 [.d (.str s)] (fun r => ∃ b, b = wordB s ∧ r = .d (.bool b)) := by
  refine vfun (Tf := @T) @tabOk Tryd.func40 rfl rfl (Nat.le_of_ble_eq_true rfl) @fun ⟨_, _, _, _, _, _, _, _, _, _, _, _, _, _, _, _, _, _, _, _, _, _, _, _, _, _, _, _, _, _, _, _, _, _, _, _, _, _, wp, wf⟩ R hR => ?_
  cbv
  try simp only [wp, getL, takeL, dropL, TK.isAgg, reduceIte]
  replace hR := fun b H h => hR _ H _ (.d (.bool b)) ⟨b, h, rfl⟩
  refine f64.call ?_
  rintro _ ⟨f, hf, rfl⟩
  (cbv; try simp only [wp, getL, takeL, dropL, TK.isAgg, reduceIte])
  refine loopV (Tf := @T) @tabOk (fun i : Nat => ⟨mk 18 [(0, .d (.str s)), (2, .d (.bool false)), (3, .d (.sl 24 1 (strsG f))), (4, .d (.int .i64 i))], []⟩) (fun i => 24 - i) (fun i => i ≤ 24 ∧ amongF f s i (24 - i) = wordB s) 0 ⟨by omega, by rw [hf]; rfl⟩ ?_ (fun i => rfl) @fun ⟨_, _, _, _, _, _, _, _, _, _, _, _, _, _, _, _, _, _, _, _, _, _, _, _, _, _, _, _, _, _, _, _, _, _, _, _, _, _, wpa, wfa⟩ i Bk hi hBk => ?_
  · (cbv; try simp only [wf, exD, exL, exT, exB, exA, leLs, leL_d, leL_undef, deq_refl, deq_int, deq_bool, deq_str, and_true, true_and, AObj.iter.injEq, nc, nc']; try simp (disch := omega) only [w64, w32, wu8])
    rfl
  (cbv; try simp only [wp, wpa, getL, takeL, dropL, TK.isAgg, reduceIte])
  obtain ⟨h1, h2⟩ := hi
  refine ⟨fun h => ⟨(by (try simp only [wf, wfa, nc, nc'] at *); (try simp (disch := omega) only [w64, w32, wu8] at *); omega), (by (try simp only [wf, wfa, nc, nc'] at *); (try simp (disch := omega) only [w64, w32, wu8] at *); omega), fun e => ?_, fun e => ?_⟩, fun h => ?_⟩
  · apply hR
    ((try simp only [wf, wfa, nc, nc'] at *); (try simp (disch := omega) only [w64, w32, wu8] at *))
    rw [← h2, amongF_step f s i 24 (by omega)]
    simp at e
    simp [e]
  · ((try simp only [wf, wfa, nc, nc'] at *); (try simp (disch := omega) only [w64, w32, wu8] at *))
    refine hBk (i + 1) _ (by omega) ⟨by omega, ?_⟩ ?_
    · rw [← h2, amongF_step f s i 24 (by omega)]
      simp at e
      simp [e]
    · (cbv; try simp only [wf, wfa, exD, exL, exT, exB, exA, leLs, leL_d, leL_undef, deq_refl, deq_int, deq_bool, deq_str, and_true, true_and, AObj.iter.injEq, nc, nc']; try simp (disch := omega) only [w64, w32, wu8])
  · apply hR
    ((try simp only [wf, wfa, nc, nc'] at *); (try simp (disch := omega) only [w64, w32, wu8] at *))
    rw [← h2, show i = 24 by omega]
    rfl
end Go.VM
