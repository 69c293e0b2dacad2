/- Contracts of the functions that the law reaches: part of the proof (X13). -/
import Derived.Test.YtcpdnjehmnbheaaDoorX12
namespace Go.VM
open Go.Proofs Go
set_option maxRecDepth 100000
set_option linter.unusedVariables false
set_option linter.unusedSimpArgs false

def TokOut (s : ByteArray) (r : A) : Prop := ∃ n c a K S O, n = (splitS s).1.length ∧ c = (splitS s).2.2.1 ∧ a = (splitS s).2.2.2 ∧ K = kindsL (splitS s).1 ∧ S = textsL (splitS s).1 ∧ O = possL (splitS s).1 ∧ r = .tup [.d (.sl n 3 (tokF K S O)), .agg [.d (.int .i64 c), .d (.int .i64 a)]]

theorem f10 (s : ByteArray) (hs : s.size < 2 ^ 40) : VFun (P ()) 10 [.d (.str s)] (TokOut s) := by
  refine vfun (Tf := @T) @tabOk Tryd.func10 rfl rfl (Nat.le_of_ble_eq_true rfl) @fun ⟨_, _, _, _, _, _, _, _, _, _, _, _, _, _, _, _, _, _, _, _, _, _, _, _, _, _, _, _, _, _, _, _, _, _, _, _, _, _, wp, wf⟩ R hR => ?_
  cbv
  try simp only [wp, getL, takeL, dropL, TK.isAgg, reduceIte]
  refine (f22 s hs).call ?_
  rintro _ ⟨T, C, c, a, K, S, O, F, G, h, hK, hS, hO, hF, hG, rfl⟩
  obtain ⟨n, hn⟩ : ∃ n, n = T.length := ⟨_, rfl⟩
  obtain ⟨m, hm⟩ : ∃ m, m = C.length := ⟨_, rfl⟩
  rw [← hn, ← hm]
  have leaf : ∀ H, R (A.tup [A.d (D.sl n 3 (tokF K S O)), A.agg [A.d (D.int IntKind.i64 c), A.d (D.int IntKind.i64 a)]]) H := fun H => 
    hR _ H _ (.tup2 (.d _) (.aggD [_, _])) ⟨n, c, a, K, S, O, by rw [← h, hn], by rw [← h], by rw [← h], by rw [← h, hK], by rw [← h, hS], by rw [← h, hO], rfl⟩
  generalize tokF K S O = TK at *
  generalize pairF F G = PF at *
  (cbv; try simp only [wp, getL, takeL, dropL, TK.isAgg, reduceIte])
  repeat' first | exact leaf _ | refine ⟨?_, ?_⟩ | trivial

end Go.VM
