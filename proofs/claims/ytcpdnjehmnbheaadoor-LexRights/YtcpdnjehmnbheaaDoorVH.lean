/- Building, making, slicing, appending. -/
import Derived.Test.YtcpdnjehmnbheaaDoorVG
import Derived.Laws.Append
set_option linter.unusedSimpArgs false
set_option linter.unusedVariables false
set_option linter.unusedSectionVars false
namespace Go.VM
open Ops
variable [Ops] [Glb] [Lim]
open Go.RowKit (Below)

variable {P : Program} {T : Tab} {B : Nat} {ι : Nat → Option Nat} {I : Nat → Nat → Prop} {w : World} {H : AHeap}

/-! ### append: the runs -/
section run
variable {t t2 ty e : TypeId} {i : TypeInfo} {z : Value} {x : Value} {n : Nat} {news : Array Value}

structure Src (P : Program) (w : World) (x : Value) (n size : Nat) (news : Array Value) : Prop where
  len : ∀ w', (Builtin.lenOf x).run P w' = .ok n w'
  first : ∀ w', w'.heap = w.heap → (Builtin.firstCells size n x).run P w' = .ok news w'
  size : news.size = n * size

theorem run_append_fits (ht : P.underlying t = some (.slice e)) (ht2 : P.underlying t2 = some .string ∨ ∃ e', P.underlying t2 = some (.slice e')) (hi : P.info? e = some i) (hx : Src P w x n i.size news)
    {b o sLen sCap : Nat} (hg : sLen + n ≤ sCap) (hc : ∀ j, j < news.size → (w.cell? ⟨b, o + sLen * i.size + j, none⟩).isSome = true) (hf : ∀ j, j < news.size → w.frozen? ⟨b, o + sLen * i.size + j, none⟩ = false) (h1 : ∀ v ∈ news.toList, v.oneCell' = true) :
    (Builtin.append_ #[t, t2] ty #[.slice (some ⟨b, o, none⟩) sLen sCap, x]).run P w = .ok (.slice (some ⟨b, o, none⟩) (sLen + n) sCap) (w.setCells b (o + sLen * i.size) news.toList) := by
  have hst := run_storeCells_cells (P := P) b (o + sLen * i.size) news.toList 0 w (by simpa using hc) (by simpa using hf) h1
  simp only [Nat.add_zero] at hst
  have hff := hx.first w rfl
  rcases ht2 with hd | ⟨e', hd⟩ <;> simp [Builtin.append_, run_underlying ht, run_underlying hd, sizeOf, typeInfo, hi, hx.len, hg, hff, Addr.add_mid, hst]

theorem run_append_none (ht : P.underlying t = some (.slice e)) (ht2 : P.underlying t2 = some .string ∨ ∃ e', P.underlying t2 = some (.slice e')) (hi : P.info? e = some i) (hx : Src P w x n i.size news)
    {sLen sCap : Nat} (hg : sLen + n ≤ sCap) :
    (Builtin.append_ #[t, t2] ty #[.slice none sLen sCap, x]).run P w = .ok (.slice none (sLen + n) sCap) w := by
  have hff := hx.first w rfl
  rcases ht2 with hd | ⟨e', hd⟩ <;> simp [Builtin.append_, run_underlying ht, run_underlying hd, sizeOf, typeInfo, hi, hx.len, hg, hff]

theorem run_append_grows (ht : P.underlying t = some (.slice e)) (ht2 : P.underlying t2 = some .string ∨ ∃ e', P.underlying t2 = some (.slice e')) (hi : P.info? e = some i) (hz : i.zero = some z) (hx : Src P w x n i.size news)
    {base : Option Addr} {sLen sCap : Nat} {olds : Array Value} (hs : Src P w (.slice base sLen sCap) sLen i.size olds) (hg : sCap < sLen + n) (h63 : ((sLen + n : Nat) : Int) ≤ 9223372036854775807) (hfit : (sLen + n) * i.bytes ≤ 140737488355328) :
    ∃ c, sLen + n ≤ c ∧ (Builtin.append_ #[t, t2] ty #[.slice base sLen sCap, x]).run P w =
      .ok (.slice (some ⟨w.heap.size, 0, none⟩) (sLen + n) c) (w.drew.alloc (.cells (olds ++ news ++ Builtin.zeroCells z.cells (c - (sLen + n))) e)) := by
  have hn : ¬ (sLen + n ≤ sCap) := by omega
  have h63' : ¬ (9223372036854775807 < ((sLen : Int) + (n : Int))) := by omega
  have h48' : ¬ (281474976710656 < Builtin.nextslicecap (sLen + n) sCap * i.bytes) := by have := growslice_fits hg hfit; omega
  have hf := hx.first w.drew rfl
  have hfo := hs.first w.drew rfl
  refine ⟨grownCap w (sLen + n) sCap e, ?_, ?_⟩
  · simp only [grownCap, Question.cut]; omega
  · rcases ht2 with hd | ⟨e', hd⟩ <;> simp [Builtin.append_, run_underlying ht, run_underlying hd, sizeOf, typeInfo, zeroValue, hi, hz, hx.len, hn, h63', h48', Question.forced, hf, hfo, newRow, grownCap]
end run

end Go.VM
