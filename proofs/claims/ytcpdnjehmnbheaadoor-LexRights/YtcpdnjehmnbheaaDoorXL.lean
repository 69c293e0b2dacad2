/- The rows of the seat, from the contracts: what all laws share. -/
import Derived.Test.YtcpdnjehmnbheaaDoorX16
import Derived.Test.YtcpdnjehmnbheaaDoorVW
import Derived.Test.YtcpdnjehmnbheaaDoorRows
namespace Go.VM
open Go.Proofs Go Go.ChangeShapes Go.WideShapes Go.ChangeAt Go.RowKit
open Go.Proofs.YtcpdnjehmnbheaaDoor
set_option maxRecDepth 100000
set_option linter.unusedVariables false

theorem own : ownKnob Tryd.prog.godebug = none := by kernel_rfl
theorem laidOut : laidOutB Tryd.prog = true := by kernel_rfl
theorem gT : Tryd.prog.globalNamed "strings.asciiSpace" = some 1 := by kernel_rfl
theorem gTType : (Tryd.prog.globals[1]?).map (·.type) = some 90 := by kernel_rfl
theorem cells5 : Tryd.prog.cellsOf 5 = 1 := by kernel_rfl
theorem cells90 : Tryd.prog.cellsOf 90 = 256 := by kernel_rfl
noncomputable def laidL : List (String × DataW Unit) := [("unicode.White_Space", Rows.laid_unicode_White_Space), ("strings.asciiSpace", Rows.laid_strings_asciiSpace)]
theorem laid_filter : (laidL.filter fun x => x.1 == "strings.asciiSpace") = [("strings.asciiSpace", Lib.tabData .u8 Lib.asciiSpaceTab)] := by kernel_rfl

theorem glob_of (W : World) (h : laidMetH Tryd.prog laidL W) : ∀ b k v, Glb.G b k v → b < W.heap.size ∧ W.cell? ⟨b, k, none⟩ = some v := by
  have h2 := laidMetH.filter (fun x => x.1 == "strings.asciiSpace") h
  rw [laid_filter] at h2
  have e : laidMetH Tryd.prog [("strings.asciiSpace", Lib.tabData .u8 Lib.asciiSpaceTab)] W = laidMet Tryd.prog [("strings.asciiSpace", Lib.tabData .u8 Lib.asciiSpaceTab)] W := rfl
  rw [e] at h2
  have tab : Lib.TabIs Tryd.prog W "strings.asciiSpace" .u8 Lib.asciiSpaceTab := Lib.tabIs_of_head gT gTType Tryd.underlying90 Tryd.underlying5 cells5 cells90 h2
  rintro b k v ⟨rfl, hk, rfl⟩
  unfold Lib.TabIs World.var? at tab
  rw [gT] at tab
  simp only [Option.bind_some] at tab
  split at tab
  · rename_i cs t fr hc
    simp only [Option.some.injEq] at tab
    refine ⟨(Array.getElem?_eq_some_iff.1 hc).1, ?_⟩
    unfold World.cell?
    rw [hc]
    have hl : k < Lib.asciiSpaceTab.length := by rw [Lib.asciiSpaceTab_length]; exact hk
    have ha := Lib.asciiSpaceTab_at k hk
    rw [List.getD_eq_getElem?_getD, List.getElem?_eq_getElem hl] at ha
    simp only [Option.getD_some] at ha
    simp [tab, hl, ha]
  · cases tab

noncomputable def laidWorld (os : Os) : World := World.laidAll Tryd.prog os laidL
theorem laid_met (os : Os) (args : Array Value) : laidMet Tryd.prog laidL ((laidWorld os).forCall (fun _ _ => 0) ⟨#[], args, []⟩).memory :=
  laidMet_laidAll args (by kernel_rfl) (by kernel_rfl)
theorem laid_shaped (os : Os) (args : Array Value) : ((laidWorld os).forCall (fun _ _ => 0) ⟨#[], args, []⟩).Shaped Tryd.prog :=
  World.shaped_of_ZipB (by kernel_rfl) (by kernel_rfl)
end Go.VM
