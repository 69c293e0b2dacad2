/-
  NARROWER THAN 'FOR EVERY INPUT', by the rows' own cells (each row's printed sentence says how): LevelOrders: laid · LevelEvals: laid · LevelTells: laid · LevelMakes: laid · LevelSubst: laid · LevelLattice: laid · LevelPuts: laid · LevelForms: laid.
  DERIVED. THE GIVEN ROWS OF THIS SEAT. 8 by the template 'for every input the law returns true; each argument reads behind the call as it read before'; 0 by the template 'total and deterministic' (their statements: YtjfkhhenccochaaDoorTotals.lean).
  GIVEN WITH THE SEED: the statements are not yours to turn. If you find one false, say at which input.
  Laid BY PROGRAM, IN A SANDBOX (cutbox-rows.mjs): the forced cells as the released guide's own fill.sh prints them over the translation e07c74bb13725bf8… (all of the seat's roots in one cut). By AI agents, Wed Nov 11 2026. No macro, syntax, notation, axiom, sorry.
-/
import Derived.Test.YtjfkhhenccochaaDoorChecked
import GoSem.Claim
import GoSem.ClaimJoined
import GoSem.ClaimMapViews
import Derived.JoinedTies
import Derived.KernelRfl
namespace Go.Proofs.YtjfkhhenccochaaDoor
/- THE CELL 'sum', in the pinned program and in every row, IS THE sha256 OF THE DUMP (.gsa) THAT YtjfkhhenccochaaDoorProg.lean LOADS. Nothing in Lean hashes anything: it is a label: what it is worth is what the hold of that sum in a sandbox is worth. -/
noncomputable def Tryd.pinned : Pinned := { name := "ytjfkhhenccochaadoor", sum := "e07c74bb13725bf872479caba0fd00bd6e724c5dafc4a567f8fce6ff6dba3565", checked := Tryd.checked }
namespace Rows
def none {H : Type} : Left H := { results := [], args := [] }

/- WHAT THE LISTED PACKAGE-LEVEL VARIABLES READ AS WHEN THE CALL BEGINS. Each datum BY PROGRAM (the guide's laid-datum.mjs) off the statement by which the dump's own 'gosem.cut.vars' lays the variable. In a bare row this is a premise. The card (YtjfkhhenccochaaDoorCards.lean) ties it to the program's text. -/
def laid_math_bits_deBruijn32tab {H : Type} : DataW H := .agg [.lit (.int .u8 0), .lit (.int .u8 1), .lit (.int .u8 28), .lit (.int .u8 2), .lit (.int .u8 29), .lit (.int .u8 14), .lit (.int .u8 24), .lit (.int .u8 3), .lit (.int .u8 30), .lit (.int .u8 22), .lit (.int .u8 20), .lit (.int .u8 15), .lit (.int .u8 25), .lit (.int .u8 17), .lit (.int .u8 4), .lit (.int .u8 8), .lit (.int .u8 31), .lit (.int .u8 27), .lit (.int .u8 13), .lit (.int .u8 23), .lit (.int .u8 21), .lit (.int .u8 19), .lit (.int .u8 16), .lit (.int .u8 7), .lit (.int .u8 26), .lit (.int .u8 12), .lit (.int .u8 18), .lit (.int .u8 6), .lit (.int .u8 11), .lit (.int .u8 5), .lit (.int .u8 10), .lit (.int .u8 9)]
def laid_math_bits_deBruijn64tab {H : Type} : DataW H := .agg [.lit (.int .u8 0), .lit (.int .u8 1), .lit (.int .u8 56), .lit (.int .u8 2), .lit (.int .u8 57), .lit (.int .u8 49), .lit (.int .u8 28), .lit (.int .u8 3), .lit (.int .u8 61), .lit (.int .u8 58), .lit (.int .u8 42), .lit (.int .u8 50), .lit (.int .u8 38), .lit (.int .u8 29), .lit (.int .u8 17), .lit (.int .u8 4), .lit (.int .u8 62), .lit (.int .u8 47), .lit (.int .u8 59), .lit (.int .u8 36), .lit (.int .u8 45), .lit (.int .u8 43), .lit (.int .u8 51), .lit (.int .u8 22), .lit (.int .u8 53), .lit (.int .u8 39), .lit (.int .u8 33), .lit (.int .u8 30), .lit (.int .u8 24), .lit (.int .u8 18), .lit (.int .u8 12), .lit (.int .u8 5), .lit (.int .u8 63), .lit (.int .u8 55), .lit (.int .u8 48), .lit (.int .u8 27), .lit (.int .u8 60), .lit (.int .u8 41), .lit (.int .u8 37), .lit (.int .u8 16), .lit (.int .u8 46), .lit (.int .u8 35), .lit (.int .u8 44), .lit (.int .u8 21), .lit (.int .u8 52), .lit (.int .u8 32), .lit (.int .u8 23), .lit (.int .u8 11), .lit (.int .u8 54), .lit (.int .u8 26), .lit (.int .u8 40), .lit (.int .u8 15), .lit (.int .u8 34), .lit (.int .u8 20), .lit (.int .u8 31), .lit (.int .u8 10), .lit (.int .u8 25), .lit (.int .u8 14), .lit (.int .u8 19), .lit (.int .u8 9), .lit (.int .u8 13), .lit (.int .u8 8), .lit (.int .u8 7), .lit (.int .u8 6)]
def laid_internal_strconv_uint64pow10 {H : Type} : DataW H := .agg [.lit (.int .u64 1), .lit (.int .u64 10), .lit (.int .u64 100), .lit (.int .u64 1000), .lit (.int .u64 10000), .lit (.int .u64 100000), .lit (.int .u64 1000000), .lit (.int .u64 10000000), .lit (.int .u64 100000000), .lit (.int .u64 1000000000), .lit (.int .u64 10000000000), .lit (.int .u64 100000000000), .lit (.int .u64 1000000000000), .lit (.int .u64 10000000000000), .lit (.int .u64 100000000000000), .lit (.int .u64 1000000000000000), .lit (.int .u64 10000000000000000), .lit (.int .u64 100000000000000000), .lit (.int .u64 1000000000000000000), .lit (.int .u64 10000000000000000000)]

/-- 'tenetlaw01.LevelOrders': WHATEVER THE INPUT: true; the input reads as it did. -/
def levelOrdersSpec : ChangeSpec := { name := "levelOrders", fn := fun _ => fun
  | [d1, d2] => { results := [.lit (.bool true)], args := [d1, d2] }
  | _ => none }
def levelOrdersRow : OpenClaim := { program := "ytjfkhhenccochaadoor", sum := "e07c74bb13725bf872479caba0fd00bd6e724c5dafc4a567f8fce6ff6dba3565", func := "tenet/tenetlaw01.LevelOrders", spec := "levelOrders", inPlace := ["internal/abi.NoEscape"], unfollowed := true, recurses := true, named := ["internal/strconv.uint64pow10", "math/bits.deBruijn32tab", "math/bits.deBruijn64tab"], apart := false, laid := [("math/bits.deBruijn32tab", laid_math_bits_deBruijn32tab), ("math/bits.deBruijn64tab", laid_math_bits_deBruijn64tab), ("internal/strconv.uint64pow10", laid_internal_strconv_uint64pow10)] }
def LevelOrdersSaid : Prop := levelOrdersRow.holds Tryd.pinned (OpenSpec.ofChange levelOrdersSpec)

/-- ITS FALSE NEIGHBOUR: 'it returns false'. Refute it at one input. -/
def levelOrdersWrong : ChangeSpec := { name := "levelOrders", fn := fun _ => fun
  | [d1, d2] => { results := [.lit (.bool false)], args := [d1, d2] }
  | _ => none }
def LevelOrdersWrongFalsely : Prop := levelOrdersRow.holds Tryd.pinned (OpenSpec.ofChange levelOrdersWrong)

/-- 'tenetlaw01.LevelEvals': WHATEVER THE INPUT: true; the input reads as it did. -/
def levelEvalsSpec : ChangeSpec := { name := "levelEvals", fn := fun _ => fun
  | [d1, d2] => { results := [.lit (.bool true)], args := [d1, d2] }
  | _ => none }
def levelEvalsRow : OpenClaim := { program := "ytjfkhhenccochaadoor", sum := "e07c74bb13725bf872479caba0fd00bd6e724c5dafc4a567f8fce6ff6dba3565", func := "tenet/tenetlaw01.LevelEvals", spec := "levelEvals", inPlace := ["internal/abi.NoEscape"], unfollowed := true, recurses := true, named := ["internal/strconv.uint64pow10", "math/bits.deBruijn32tab", "math/bits.deBruijn64tab"], apart := false, laid := [("math/bits.deBruijn32tab", laid_math_bits_deBruijn32tab), ("math/bits.deBruijn64tab", laid_math_bits_deBruijn64tab), ("internal/strconv.uint64pow10", laid_internal_strconv_uint64pow10)] }
def LevelEvalsSaid : Prop := levelEvalsRow.holds Tryd.pinned (OpenSpec.ofChange levelEvalsSpec)

/-- ITS FALSE NEIGHBOUR: 'it returns false'. Refute it at one input. -/
def levelEvalsWrong : ChangeSpec := { name := "levelEvals", fn := fun _ => fun
  | [d1, d2] => { results := [.lit (.bool false)], args := [d1, d2] }
  | _ => none }
def LevelEvalsWrongFalsely : Prop := levelEvalsRow.holds Tryd.pinned (OpenSpec.ofChange levelEvalsWrong)

/-- 'tenetlaw01.LevelTells': WHATEVER THE INPUT: true; the input reads as it did. -/
def levelTellsSpec : ChangeSpec := { name := "levelTells", fn := fun _ => fun
  | [d1, d2, d3] => { results := [.lit (.bool true)], args := [d1, d2, d3] }
  | _ => none }
def levelTellsRow : OpenClaim := { program := "ytjfkhhenccochaadoor", sum := "e07c74bb13725bf872479caba0fd00bd6e724c5dafc4a567f8fce6ff6dba3565", func := "tenet/tenetlaw01.LevelTells", spec := "levelTells", inPlace := ["internal/abi.NoEscape"], unfollowed := true, recurses := true, named := ["internal/strconv.uint64pow10", "math/bits.deBruijn32tab", "math/bits.deBruijn64tab"], apart := false, laid := [("math/bits.deBruijn32tab", laid_math_bits_deBruijn32tab), ("math/bits.deBruijn64tab", laid_math_bits_deBruijn64tab), ("internal/strconv.uint64pow10", laid_internal_strconv_uint64pow10)] }
def LevelTellsSaid : Prop := levelTellsRow.holds Tryd.pinned (OpenSpec.ofChange levelTellsSpec)

/-- ITS FALSE NEIGHBOUR: 'it returns false'. Refute it at one input. -/
def levelTellsWrong : ChangeSpec := { name := "levelTells", fn := fun _ => fun
  | [d1, d2, d3] => { results := [.lit (.bool false)], args := [d1, d2, d3] }
  | _ => none }
def LevelTellsWrongFalsely : Prop := levelTellsRow.holds Tryd.pinned (OpenSpec.ofChange levelTellsWrong)

/-- 'tenetlaw01.LevelMakes': WHATEVER THE INPUT: true; the input reads as it did. -/
def levelMakesSpec : ChangeSpec := { name := "levelMakes", fn := fun _ => fun
  | [d1, d2] => { results := [.lit (.bool true)], args := [d1, d2] }
  | _ => none }
def levelMakesRow : OpenClaim := { program := "ytjfkhhenccochaadoor", sum := "e07c74bb13725bf872479caba0fd00bd6e724c5dafc4a567f8fce6ff6dba3565", func := "tenet/tenetlaw01.LevelMakes", spec := "levelMakes", inPlace := ["internal/abi.NoEscape"], unfollowed := true, recurses := true, named := ["internal/strconv.uint64pow10", "math/bits.deBruijn32tab", "math/bits.deBruijn64tab"], apart := false, laid := [("math/bits.deBruijn32tab", laid_math_bits_deBruijn32tab), ("math/bits.deBruijn64tab", laid_math_bits_deBruijn64tab), ("internal/strconv.uint64pow10", laid_internal_strconv_uint64pow10)] }
def LevelMakesSaid : Prop := levelMakesRow.holds Tryd.pinned (OpenSpec.ofChange levelMakesSpec)

/-- ITS FALSE NEIGHBOUR: 'it returns false'. Refute it at one input. -/
def levelMakesWrong : ChangeSpec := { name := "levelMakes", fn := fun _ => fun
  | [d1, d2] => { results := [.lit (.bool false)], args := [d1, d2] }
  | _ => none }
def LevelMakesWrongFalsely : Prop := levelMakesRow.holds Tryd.pinned (OpenSpec.ofChange levelMakesWrong)

/-- 'tenetlaw01.LevelSubst': WHATEVER THE INPUT: true; the input reads as it did. -/
def levelSubstSpec : ChangeSpec := { name := "levelSubst", fn := fun _ => fun
  | [d1, d2] => { results := [.lit (.bool true)], args := [d1, d2] }
  | _ => none }
def levelSubstRow : OpenClaim := { program := "ytjfkhhenccochaadoor", sum := "e07c74bb13725bf872479caba0fd00bd6e724c5dafc4a567f8fce6ff6dba3565", func := "tenet/tenetlaw01.LevelSubst", spec := "levelSubst", inPlace := ["internal/abi.NoEscape"], unfollowed := true, recurses := true, named := ["internal/strconv.uint64pow10", "math/bits.deBruijn32tab", "math/bits.deBruijn64tab"], apart := false, laid := [("math/bits.deBruijn32tab", laid_math_bits_deBruijn32tab), ("math/bits.deBruijn64tab", laid_math_bits_deBruijn64tab), ("internal/strconv.uint64pow10", laid_internal_strconv_uint64pow10)] }
def LevelSubstSaid : Prop := levelSubstRow.holds Tryd.pinned (OpenSpec.ofChange levelSubstSpec)

/-- ITS FALSE NEIGHBOUR: 'it returns false'. Refute it at one input. -/
def levelSubstWrong : ChangeSpec := { name := "levelSubst", fn := fun _ => fun
  | [d1, d2] => { results := [.lit (.bool false)], args := [d1, d2] }
  | _ => none }
def LevelSubstWrongFalsely : Prop := levelSubstRow.holds Tryd.pinned (OpenSpec.ofChange levelSubstWrong)

/-- 'tenetlaw01.LevelLattice': WHATEVER THE INPUT: true; the input reads as it did. -/
def levelLatticeSpec : ChangeSpec := { name := "levelLattice", fn := fun _ => fun
  | [d1, d2, d3] => { results := [.lit (.bool true)], args := [d1, d2, d3] }
  | _ => none }
def levelLatticeRow : OpenClaim := { program := "ytjfkhhenccochaadoor", sum := "e07c74bb13725bf872479caba0fd00bd6e724c5dafc4a567f8fce6ff6dba3565", func := "tenet/tenetlaw01.LevelLattice", spec := "levelLattice", inPlace := ["internal/abi.NoEscape"], unfollowed := true, recurses := true, named := ["internal/strconv.uint64pow10", "math/bits.deBruijn32tab", "math/bits.deBruijn64tab"], apart := false, laid := [("math/bits.deBruijn32tab", laid_math_bits_deBruijn32tab), ("math/bits.deBruijn64tab", laid_math_bits_deBruijn64tab), ("internal/strconv.uint64pow10", laid_internal_strconv_uint64pow10)] }
def LevelLatticeSaid : Prop := levelLatticeRow.holds Tryd.pinned (OpenSpec.ofChange levelLatticeSpec)

/-- ITS FALSE NEIGHBOUR: 'it returns false'. Refute it at one input. -/
def levelLatticeWrong : ChangeSpec := { name := "levelLattice", fn := fun _ => fun
  | [d1, d2, d3] => { results := [.lit (.bool false)], args := [d1, d2, d3] }
  | _ => none }
def LevelLatticeWrongFalsely : Prop := levelLatticeRow.holds Tryd.pinned (OpenSpec.ofChange levelLatticeWrong)

/-- 'tenetlaw01.LevelPuts': WHATEVER THE INPUT: true; the input reads as it did. -/
def levelPutsSpec : ChangeSpec := { name := "levelPuts", fn := fun _ => fun
  | [d1, d2, d3, d4] => { results := [.lit (.bool true)], args := [d1, d2, d3, d4] }
  | _ => none }
def levelPutsRow : OpenClaim := { program := "ytjfkhhenccochaadoor", sum := "e07c74bb13725bf872479caba0fd00bd6e724c5dafc4a567f8fce6ff6dba3565", func := "tenet/tenetlaw01.LevelPuts", spec := "levelPuts", inPlace := ["internal/abi.NoEscape"], unfollowed := true, recurses := true, named := ["internal/strconv.uint64pow10", "math/bits.deBruijn32tab", "math/bits.deBruijn64tab"], apart := false, laid := [("math/bits.deBruijn32tab", laid_math_bits_deBruijn32tab), ("math/bits.deBruijn64tab", laid_math_bits_deBruijn64tab), ("internal/strconv.uint64pow10", laid_internal_strconv_uint64pow10)] }
def LevelPutsSaid : Prop := levelPutsRow.holds Tryd.pinned (OpenSpec.ofChange levelPutsSpec)

/-- ITS FALSE NEIGHBOUR: 'it returns false'. Refute it at one input. -/
def levelPutsWrong : ChangeSpec := { name := "levelPuts", fn := fun _ => fun
  | [d1, d2, d3, d4] => { results := [.lit (.bool false)], args := [d1, d2, d3, d4] }
  | _ => none }
def LevelPutsWrongFalsely : Prop := levelPutsRow.holds Tryd.pinned (OpenSpec.ofChange levelPutsWrong)

/-- 'tenetlaw01.LevelForms': WHATEVER THE INPUT: true; the input reads as it did. -/
def levelFormsSpec : ChangeSpec := { name := "levelForms", fn := fun _ => fun
  | [d] => { results := [.lit (.bool true)], args := [d] }
  | _ => none }
def levelFormsRow : OpenClaim := { program := "ytjfkhhenccochaadoor", sum := "e07c74bb13725bf872479caba0fd00bd6e724c5dafc4a567f8fce6ff6dba3565", func := "tenet/tenetlaw01.LevelForms", spec := "levelForms", inPlace := ["internal/abi.NoEscape"], unfollowed := true, recurses := true, named := ["internal/strconv.uint64pow10", "math/bits.deBruijn32tab", "math/bits.deBruijn64tab"], apart := false, laid := [("math/bits.deBruijn32tab", laid_math_bits_deBruijn32tab), ("math/bits.deBruijn64tab", laid_math_bits_deBruijn64tab), ("internal/strconv.uint64pow10", laid_internal_strconv_uint64pow10)] }
def LevelFormsSaid : Prop := levelFormsRow.holds Tryd.pinned (OpenSpec.ofChange levelFormsSpec)

/-- ITS FALSE NEIGHBOUR: 'it returns false'. Refute it at one input. -/
def levelFormsWrong : ChangeSpec := { name := "levelForms", fn := fun _ => fun
  | [d] => { results := [.lit (.bool false)], args := [d] }
  | _ => none }
def LevelFormsWrongFalsely : Prop := levelFormsRow.holds Tryd.pinned (OpenSpec.ofChange levelFormsWrong)

/- THE SECOND FORM. 'bulk': how many values and letters a reading holds, each counted each time it is reached (what is shared counts as often as it is met; a slice's spare places count too). A statement '..UptoSaid' is the law's where the arguments, and the package variables that the reading takes, are together of bulk at most 1048576: NARROWER than '..Said'. Prove '..Said' where nothing that the law and all that it calls make is longer than what came in: it says more and counts as full. Else prove '..UptoSaid'. A law counts once. -/
mutual
def uptoBulk {H : Type} : DataW H → Nat
  | .lit (.string bytes) => bytes.length + 1
  | .lit _ => 1
  | .nil => 1
  | .ptr d => uptoBulk d + 1
  | .slice elems spare => uptoBulkAll elems + uptoBulkAll spare + 1
  | .agg parts => uptoBulkAll parts + 1
  | .iface _ d => uptoBulk d + 1
  | .map entries => uptoBulkEntries entries + 1
  | .held _ => 1
def uptoBulkAll {H : Type} : List (DataW H) → Nat
  | [] => 0
  | d :: r => uptoBulk d + uptoBulkAll r
def uptoBulkEntries {H : Type} : List (Lit × DataW H) → Nat
  | [] => 0
  | x :: r => uptoBulkEntry x + uptoBulkEntries r
def uptoBulkEntry {H : Type} : Lit × DataW H → Nat
  | (.string bytes, d) => bytes.length + uptoBulk d + 1
  | (_, d) => uptoBulk d + 1
 end
def uptoSmall : (H : Type) → List (DataW H) → Bool := fun _ ds => decide (uptoBulkAll ds ≤ 1048576)
def OpenSpec.upto (s : _root_.Go.ChangeSpec) : _root_.Go.OpenSpec := { _root_.Go.OpenSpec.ofChange s with cond := some uptoSmall }

/-- 'tenetlaw01.LevelOrders', WHERE WHAT IT READS IS OF BULK AT MOST 1048576: true; the input reads as it did. -/
def levelOrdersUptoRow : OpenClaim := { program := "ytjfkhhenccochaadoor", sum := "e07c74bb13725bf872479caba0fd00bd6e724c5dafc4a567f8fce6ff6dba3565", func := "tenet/tenetlaw01.LevelOrders", spec := "levelOrders", inPlace := ["internal/abi.NoEscape"], unfollowed := true, recurses := true, named := ["internal/strconv.uint64pow10", "math/bits.deBruijn32tab", "math/bits.deBruijn64tab"], apart := false, laid := [("math/bits.deBruijn32tab", laid_math_bits_deBruijn32tab), ("math/bits.deBruijn64tab", laid_math_bits_deBruijn64tab), ("internal/strconv.uint64pow10", laid_internal_strconv_uint64pow10)], narrowed := true }
def LevelOrdersUptoSaid : Prop := levelOrdersUptoRow.holds Tryd.pinned (OpenSpec.upto levelOrdersSpec)

/-- 'tenetlaw01.LevelEvals', WHERE WHAT IT READS IS OF BULK AT MOST 1048576: true; the input reads as it did. -/
def levelEvalsUptoRow : OpenClaim := { program := "ytjfkhhenccochaadoor", sum := "e07c74bb13725bf872479caba0fd00bd6e724c5dafc4a567f8fce6ff6dba3565", func := "tenet/tenetlaw01.LevelEvals", spec := "levelEvals", inPlace := ["internal/abi.NoEscape"], unfollowed := true, recurses := true, named := ["internal/strconv.uint64pow10", "math/bits.deBruijn32tab", "math/bits.deBruijn64tab"], apart := false, laid := [("math/bits.deBruijn32tab", laid_math_bits_deBruijn32tab), ("math/bits.deBruijn64tab", laid_math_bits_deBruijn64tab), ("internal/strconv.uint64pow10", laid_internal_strconv_uint64pow10)], narrowed := true }
def LevelEvalsUptoSaid : Prop := levelEvalsUptoRow.holds Tryd.pinned (OpenSpec.upto levelEvalsSpec)

/-- 'tenetlaw01.LevelTells', WHERE WHAT IT READS IS OF BULK AT MOST 1048576: true; the input reads as it did. -/
def levelTellsUptoRow : OpenClaim := { program := "ytjfkhhenccochaadoor", sum := "e07c74bb13725bf872479caba0fd00bd6e724c5dafc4a567f8fce6ff6dba3565", func := "tenet/tenetlaw01.LevelTells", spec := "levelTells", inPlace := ["internal/abi.NoEscape"], unfollowed := true, recurses := true, named := ["internal/strconv.uint64pow10", "math/bits.deBruijn32tab", "math/bits.deBruijn64tab"], apart := false, laid := [("math/bits.deBruijn32tab", laid_math_bits_deBruijn32tab), ("math/bits.deBruijn64tab", laid_math_bits_deBruijn64tab), ("internal/strconv.uint64pow10", laid_internal_strconv_uint64pow10)], narrowed := true }
def LevelTellsUptoSaid : Prop := levelTellsUptoRow.holds Tryd.pinned (OpenSpec.upto levelTellsSpec)

/-- 'tenetlaw01.LevelMakes', WHERE WHAT IT READS IS OF BULK AT MOST 1048576: true; the input reads as it did. -/
def levelMakesUptoRow : OpenClaim := { program := "ytjfkhhenccochaadoor", sum := "e07c74bb13725bf872479caba0fd00bd6e724c5dafc4a567f8fce6ff6dba3565", func := "tenet/tenetlaw01.LevelMakes", spec := "levelMakes", inPlace := ["internal/abi.NoEscape"], unfollowed := true, recurses := true, named := ["internal/strconv.uint64pow10", "math/bits.deBruijn32tab", "math/bits.deBruijn64tab"], apart := false, laid := [("math/bits.deBruijn32tab", laid_math_bits_deBruijn32tab), ("math/bits.deBruijn64tab", laid_math_bits_deBruijn64tab), ("internal/strconv.uint64pow10", laid_internal_strconv_uint64pow10)], narrowed := true }
def LevelMakesUptoSaid : Prop := levelMakesUptoRow.holds Tryd.pinned (OpenSpec.upto levelMakesSpec)

/-- 'tenetlaw01.LevelSubst', WHERE WHAT IT READS IS OF BULK AT MOST 1048576: true; the input reads as it did. -/
def levelSubstUptoRow : OpenClaim := { program := "ytjfkhhenccochaadoor", sum := "e07c74bb13725bf872479caba0fd00bd6e724c5dafc4a567f8fce6ff6dba3565", func := "tenet/tenetlaw01.LevelSubst", spec := "levelSubst", inPlace := ["internal/abi.NoEscape"], unfollowed := true, recurses := true, named := ["internal/strconv.uint64pow10", "math/bits.deBruijn32tab", "math/bits.deBruijn64tab"], apart := false, laid := [("math/bits.deBruijn32tab", laid_math_bits_deBruijn32tab), ("math/bits.deBruijn64tab", laid_math_bits_deBruijn64tab), ("internal/strconv.uint64pow10", laid_internal_strconv_uint64pow10)], narrowed := true }
def LevelSubstUptoSaid : Prop := levelSubstUptoRow.holds Tryd.pinned (OpenSpec.upto levelSubstSpec)

/-- 'tenetlaw01.LevelLattice', WHERE WHAT IT READS IS OF BULK AT MOST 1048576: true; the input reads as it did. -/
def levelLatticeUptoRow : OpenClaim := { program := "ytjfkhhenccochaadoor", sum := "e07c74bb13725bf872479caba0fd00bd6e724c5dafc4a567f8fce6ff6dba3565", func := "tenet/tenetlaw01.LevelLattice", spec := "levelLattice", inPlace := ["internal/abi.NoEscape"], unfollowed := true, recurses := true, named := ["internal/strconv.uint64pow10", "math/bits.deBruijn32tab", "math/bits.deBruijn64tab"], apart := false, laid := [("math/bits.deBruijn32tab", laid_math_bits_deBruijn32tab), ("math/bits.deBruijn64tab", laid_math_bits_deBruijn64tab), ("internal/strconv.uint64pow10", laid_internal_strconv_uint64pow10)], narrowed := true }
def LevelLatticeUptoSaid : Prop := levelLatticeUptoRow.holds Tryd.pinned (OpenSpec.upto levelLatticeSpec)

/-- 'tenetlaw01.LevelPuts', WHERE WHAT IT READS IS OF BULK AT MOST 1048576: true; the input reads as it did. -/
def levelPutsUptoRow : OpenClaim := { program := "ytjfkhhenccochaadoor", sum := "e07c74bb13725bf872479caba0fd00bd6e724c5dafc4a567f8fce6ff6dba3565", func := "tenet/tenetlaw01.LevelPuts", spec := "levelPuts", inPlace := ["internal/abi.NoEscape"], unfollowed := true, recurses := true, named := ["internal/strconv.uint64pow10", "math/bits.deBruijn32tab", "math/bits.deBruijn64tab"], apart := false, laid := [("math/bits.deBruijn32tab", laid_math_bits_deBruijn32tab), ("math/bits.deBruijn64tab", laid_math_bits_deBruijn64tab), ("internal/strconv.uint64pow10", laid_internal_strconv_uint64pow10)], narrowed := true }
def LevelPutsUptoSaid : Prop := levelPutsUptoRow.holds Tryd.pinned (OpenSpec.upto levelPutsSpec)

/-- 'tenetlaw01.LevelForms', WHERE WHAT IT READS IS OF BULK AT MOST 1048576: true; the input reads as it did. -/
def levelFormsUptoRow : OpenClaim := { program := "ytjfkhhenccochaadoor", sum := "e07c74bb13725bf872479caba0fd00bd6e724c5dafc4a567f8fce6ff6dba3565", func := "tenet/tenetlaw01.LevelForms", spec := "levelForms", inPlace := ["internal/abi.NoEscape"], unfollowed := true, recurses := true, named := ["internal/strconv.uint64pow10", "math/bits.deBruijn32tab", "math/bits.deBruijn64tab"], apart := false, laid := [("math/bits.deBruijn32tab", laid_math_bits_deBruijn32tab), ("math/bits.deBruijn64tab", laid_math_bits_deBruijn64tab), ("internal/strconv.uint64pow10", laid_internal_strconv_uint64pow10)], narrowed := true }
def LevelFormsUptoSaid : Prop := levelFormsUptoRow.holds Tryd.pinned (OpenSpec.upto levelFormsSpec)

end Rows
end Go.Proofs.YtjfkhhenccochaaDoor
