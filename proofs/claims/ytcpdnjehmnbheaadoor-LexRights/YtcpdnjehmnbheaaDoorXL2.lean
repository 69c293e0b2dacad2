/- A token as an argument. -/
import Derived.Test.YtcpdnjehmnbheaaDoorXL
namespace Go.VM
open Go.Proofs Go Go.ChangeShapes Go.WideShapes Go.ChangeAt Go.RowKit
set_option maxRecDepth 100000
set_option linter.unusedVariables false

theorem rep_ints {w : World} {I : Nat → Nat → Prop} {ι : Nat → Option Nat} {H : AHeap} (v0 v1 v2 : Value) (x0 x1 x2 : D) (h0 : RepD w I v0 x0) (h1 : RepD w I v1 x1) (h2 : RepD w I v2 x2) : RepA w I ι H (.agg #[v0, v1, v2]) (.agg [.d x0, .d x1, .d x2]) := by
  refine .agg [v0, v1, v2] [.d x0, .d x1, .d x2] rfl fun k hk => ?_
  match k, hk with
  | 0, _ => exact .d _ _ h0
  | 1, _ => exact .d _ _ h1
  | 2, _ => exact .d _ _ h2
theorem open_token {H : Type} {enc : TypeId × Value → H} {W : World} {base b0 : Nat} {sp : Nat → Bool} {held : Bool} {r : Reach} {v : Value} {d : DataW H} {ps : List MemPlace}
    (hval : Value.okWide Tryd.prog W r b0 32 v) (hd : DataW.Trod enc Tryd.prog W base sp held 32 v d ps) : ∃ k s p, v = .agg #[.int .i64 k, .string s, .int .i64 p] := by
  obtain ⟨cs, rfl, hsz⟩ := okWide_struct Tryd.underlying32 hval
  obtain ⟨fuel, hf⟩ := hd
  obtain ⟨xs, n, rfl, hx, hl, hlen, hfs⟩ := DataW.trod_struct Tryd.underlying32 hf
  have c32 : Tryd.prog.cellsOf 32 = 3 := by kernel_rfl
  have c3 : Tryd.prog.cellsOf 3 = 1 := by kernel_rfl
  have c9 : Tryd.prog.cellsOf 9 = 1 := by kernel_rfl
  rw [c32] at hsz
  obtain ⟨l⟩ := cs
  have hsz : l.length = 3 := by simpa using hsz
  match l, hsz with
  | [v0, v1, v2], _ =>
    match xs, hlen with
    | [y0, y1, y2], _ =>
      have h0 := hfs 0 _ rfl
      have h1 := hfs 1 _ rfl
      have h2 := hfs 2 _ rfl
      have h0 : DataW.trod enc Tryd.prog W base sp held n 3 (List.take (Tryd.prog.cellsOf 3) [v0, v1, v2]) = some y0 := h0
      have h1 : DataW.trod enc Tryd.prog W base sp held n 9 (List.take (Tryd.prog.cellsOf 9) [v1, v2]) = some y1 := h1
      have h2 : DataW.trod enc Tryd.prog W base sp held n 3 (List.take (Tryd.prog.cellsOf 3) [v2]) = some y2 := h2
      rw [c3] at h0 h2
      rw [c9] at h1
      have h0 : DataW.trod enc Tryd.prog W base sp held n 3 [v0] = some y0 := h0
      have h1 : DataW.trod enc Tryd.prog W base sp held n 9 [v1] = some y1 := h1
      have h2 : DataW.trod enc Tryd.prog W base sp held n 3 [v2] = some y2 := h2
      obtain ⟨k, e0, _⟩ := DataW.trod_int Tryd.underlying3 h0
      obtain ⟨t, e1, _⟩ := DataW.trod_string Tryd.underlying9 h1
      obtain ⟨p, e2, _⟩ := DataW.trod_int Tryd.underlying3 h2
      cases e0
      cases e1
      cases e2
      exact ⟨k, t, p, rfl⟩
end Go.VM
