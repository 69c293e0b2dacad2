/- Part of the proof: XL3. -/
import Derived.Deep.Slices
import Derived.Test.YtcpdnjehmnbheaaDoorXG4
import Derived.Test.YtcpdnjehmnbheaaDoorXG2
/- Tokens as an argument. -/
namespace Go.VM
open Go.Proofs Go Go.ChangeShapes Go.WideShapes Go.ChangeAt Go.RowKit
set_option maxRecDepth 100000
set_option linter.unusedVariables false

theorem open_toks {H : Type} {enc : TypeId × Value → H} {W : World} {base b0 : Nat} {sp : Nat → Bool} {held : Bool} {r : Reach} {v : Value} {d : DataW H} {ps : List MemPlace}
    (hval : Value.okWide Tryd.prog W r b0 22 v) (hd : DataW.Trod enc Tryd.prog W base sp held 22 v d ps) :
    ∃ (n : Nat) (K : Nat → Int) (S : Nat → ByteArray) (O : Nat → Int), n < 2 ^ 63 ∧ RepD W (fun b _ => b < W.heap.size) v (.sl n 3 (tokF K S O)) := by
  obtain ⟨a, len, cap, rfl⟩ := okWide_slice Tryd.underlying22 hval
  obtain ⟨fuel, hf⟩ := hd
  have hf : DataW.trod enc Tryd.prog W base sp held fuel 22 [.slice a len cap] = some (d, ps) := hf
  have c32 : Tryd.prog.cellsOf 32 = 3 := by kernel_rfl
  have c3 : Tryd.prog.cellsOf 3 = 1 := by kernel_rfl
  have c9 : Tryd.prog.cellsOf 9 = 1 := by kernel_rfl
  rcases Go.Deep.open_slice Tryd.underlying22 hf with ⟨hcs, _⟩ | ⟨a', len', cap', m, q, D, Pl, hcs, hb, hl, hm, hmm, hx, hall⟩
  · cases hcs
    exact ⟨0, fun _ => 0, fun _ => ⟨#[]⟩, fun _ => 0, by decide, .sl0 _ _ _ _⟩
  · simp only [List.cons.injEq, Value.slice.injEq, and_true] at hcs
    obtain ⟨rfl, rfl, rfl⟩ := hcs
    have hlm : len ≤ m := by rw [hmm]; split <;> omega
    by_cases h0 : len = 0
    · subst h0
      exact ⟨0, fun _ => 0, fun _ => ⟨#[]⟩, fun _ => 0, by decide, .sl0 _ _ _ _⟩
    have each : ∀ i, i < len → ∃ q : Int × ByteArray × Int, W.cell? (a'.add (i * 3)) = some (.int .i64 q.1) ∧ W.cell? (a'.add (i * 3 + 1)) = some (.string q.2.1) ∧ W.cell? (a'.add (i * 3 + 2)) = some (.int .i64 q.2.2) := by
      intro i hi
      obtain ⟨cs', h1, h2⟩ := hall i (by omega)
      rw [c32] at h1
      obtain ⟨_, hlen, hcell⟩ := World.cells?_some h1
      obtain ⟨xs, n, hn, hxx, _, hlx, hfs⟩ := DataW.trod_struct Tryd.underlying32 h2
      match cs', hlen with
      | [v0, v1, v2], _ =>
        match xs, hlx with
        | [y0, y1, y2], _ =>
          have g0 := hfs 0 _ rfl
          have g1 := hfs 1 _ rfl
          have g2 := hfs 2 _ rfl
          have g0 : DataW.trod enc Tryd.prog W base sp held n 3 (List.take (Tryd.prog.cellsOf 3) [v0, v1, v2]) = some y0 := g0
          have g1 : DataW.trod enc Tryd.prog W base sp held n 9 (List.take (Tryd.prog.cellsOf 9) [v1, v2]) = some y1 := g1
          have g2 : DataW.trod enc Tryd.prog W base sp held n 3 (List.take (Tryd.prog.cellsOf 3) [v2]) = some y2 := g2
          rw [c3] at g0 g2
          rw [c9] at g1
          have g0 : DataW.trod enc Tryd.prog W base sp held n 3 [v0] = some y0 := g0
          have g1 : DataW.trod enc Tryd.prog W base sp held n 9 [v1] = some y1 := g1
          have g2 : DataW.trod enc Tryd.prog W base sp held n 3 [v2] = some y2 := g2
          obtain ⟨k, e0, _⟩ := DataW.trod_int Tryd.underlying3 g0
          obtain ⟨t, e1, _⟩ := DataW.trod_string Tryd.underlying9 g1
          obtain ⟨p, e2, _⟩ := DataW.trod_int Tryd.underlying3 g2
          cases e0
          cases e1
          cases e2
          have k0 := hcell 0 (by omega)
          have k1 := hcell 1 (by omega)
          have k2 := hcell 2 (by omega)
          rw [Go.Deep.add_add] at k0 k1 k2
          exact ⟨(k, t, p), k0, k1, k2⟩
    let Q : Nat → Int × ByteArray × Int := fun i => if h : i < len then (each i h).choose else (0, ⟨#[]⟩, 0)
    have hQ : ∀ i, i < len → W.cell? (a'.add (i * 3)) = some (.int .i64 (Q i).1) ∧ W.cell? (a'.add (i * 3 + 1)) = some (.string (Q i).2.1) ∧ W.cell? (a'.add (i * 3 + 2)) = some (.int .i64 (Q i).2.2) := fun i hi => by
      simp only [Q, dif_pos hi]
      exact (each i hi).choose_spec
    have hz := (hQ 0 (by omega)).1
    obtain ⟨b, o, spt⟩ := a'
    have hsp : spt = none := by
      have : W.cell? ⟨b, o, spt⟩ = some (.int .i64 (Q 0).1) := hz
      unfold World.cell? at this
      split at this
      · cases spt with
        | none => rfl
        | some x => simp at this
      · cases this
    subst hsp
    have hadd : ∀ j, (⟨b, o, none⟩ : Addr).add j = ⟨b, o + j, none⟩ := fun j => by unfold Addr.add; split <;> simp_all
    have hlt : b < W.heap.size := by
      have : W.cell? ⟨b, o, none⟩ = some (.int .i64 (Q 0).1) := hz
      unfold World.cell? at this
      split at this
      · rename_i c _ _ hc; exact (Array.getElem?_eq_some_iff.1 hc).1
      · cases this
    refine ⟨len, fun i => (Q i).1, fun i => (Q i).2.1, fun i => (Q i).2.2, by unfold maxLen at hm; omega, .sl b o len cap 3 _ (fun i j => match j with | 0 => .int .i64 (Q i).1 | 1 => .string (Q i).2.1 | _ => .int .i64 (Q i).2.2) hl (fun i j hi hj => ⟨hlt, ?_⟩) (fun i j hi hj => ?_)⟩
    · obtain ⟨q0, q1, q2⟩ := hQ i hi
      rw [hadd] at q0 q1 q2
      match j, hj with
      | 0, _ => simpa using q0
      | 1, _ => simpa using q1
      | 2, _ => simpa using q2
    · match j, hj with
      | 0, _ => exact .int _ _
      | 1, _ => exact .str _
      | 2, _ => exact .int _ _
end Go.VM
