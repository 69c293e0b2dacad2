/-
  NARROWER THAN 'FOR EVERY INPUT', by the rows' own cells (each row's printed sentence says how): TermForms: loops, laid · TermCompares: loops, laid · TermShifts: loops, laid · TermMoves: loops, laid · TermBinds: loops, laid · TermTwice: loops, laid · TermPaths: loops, laid · TermStands: loops, laid · TermAlikes: loops, laid.
  DERIVED. THE GIVEN ROWS OF THIS SEAT. 9 by the template 'for every input the law returns true; each argument reads behind the call as it read before'; 0 by the template 'total and deterministic' (their statements: YtfbecfnagidioaaDoorTotals.lean).
  GIVEN WITH THE SEED: the statements are not yours to turn. If you find one false, say at which input.
  Laid BY PROGRAM, IN A SANDBOX (cutbox-rows.mjs): the forced cells as the released guide's own fill.sh prints them over the translation e82e62f8307d3479… (all of the seat's roots in one cut). By AI agents, Wed Nov 11 2026. No macro, syntax, notation, axiom, sorry.
-/
import Derived.Test.YtfbecfnagidioaaDoorChecked
import GoSem.Claim
import GoSem.ClaimJoined
import GoSem.ClaimMapViews
import Derived.JoinedTies
import Derived.KernelRfl
namespace Go.Proofs.YtfbecfnagidioaaDoor
/- THE CELL 'sum', in the pinned program and in every row, IS THE sha256 OF THE DUMP (.gsa) THAT YtfbecfnagidioaaDoorProg.lean LOADS. Nothing in Lean hashes anything: it is a label: what it is worth is what the hold of that sum in a sandbox is worth. -/
noncomputable def Tryd.pinned : Pinned := { name := "ytfbecfnagidioaadoor", sum := "e82e62f8307d34799a0f94bdf6bdfb332dc8682b31e978e0216d74fca0a14ace", checked := Tryd.checked }
namespace Rows
def none {H : Type} : Left H := { results := [], args := [] }

/- WHAT THE LISTED PACKAGE-LEVEL VARIABLES READ AS WHEN THE CALL BEGINS. Each datum BY PROGRAM (the guide's laid-datum.mjs) off the statement by which the dump's own 'gosem.cut.vars' lays the variable. In a bare row this is a premise. The card (YtfbecfnagidioaaDoorCards.lean) ties it to the program's text. -/
def laid_math_bits_deBruijn32tab {H : Type} : DataW H := .agg [.lit (.int .u8 0), .lit (.int .u8 1), .lit (.int .u8 28), .lit (.int .u8 2), .lit (.int .u8 29), .lit (.int .u8 14), .lit (.int .u8 24), .lit (.int .u8 3), .lit (.int .u8 30), .lit (.int .u8 22), .lit (.int .u8 20), .lit (.int .u8 15), .lit (.int .u8 25), .lit (.int .u8 17), .lit (.int .u8 4), .lit (.int .u8 8), .lit (.int .u8 31), .lit (.int .u8 27), .lit (.int .u8 13), .lit (.int .u8 23), .lit (.int .u8 21), .lit (.int .u8 19), .lit (.int .u8 16), .lit (.int .u8 7), .lit (.int .u8 26), .lit (.int .u8 12), .lit (.int .u8 18), .lit (.int .u8 6), .lit (.int .u8 11), .lit (.int .u8 5), .lit (.int .u8 10), .lit (.int .u8 9)]
def laid_math_bits_deBruijn64tab {H : Type} : DataW H := .agg [.lit (.int .u8 0), .lit (.int .u8 1), .lit (.int .u8 56), .lit (.int .u8 2), .lit (.int .u8 57), .lit (.int .u8 49), .lit (.int .u8 28), .lit (.int .u8 3), .lit (.int .u8 61), .lit (.int .u8 58), .lit (.int .u8 42), .lit (.int .u8 50), .lit (.int .u8 38), .lit (.int .u8 29), .lit (.int .u8 17), .lit (.int .u8 4), .lit (.int .u8 62), .lit (.int .u8 47), .lit (.int .u8 59), .lit (.int .u8 36), .lit (.int .u8 45), .lit (.int .u8 43), .lit (.int .u8 51), .lit (.int .u8 22), .lit (.int .u8 53), .lit (.int .u8 39), .lit (.int .u8 33), .lit (.int .u8 30), .lit (.int .u8 24), .lit (.int .u8 18), .lit (.int .u8 12), .lit (.int .u8 5), .lit (.int .u8 63), .lit (.int .u8 55), .lit (.int .u8 48), .lit (.int .u8 27), .lit (.int .u8 60), .lit (.int .u8 41), .lit (.int .u8 37), .lit (.int .u8 16), .lit (.int .u8 46), .lit (.int .u8 35), .lit (.int .u8 44), .lit (.int .u8 21), .lit (.int .u8 52), .lit (.int .u8 32), .lit (.int .u8 23), .lit (.int .u8 11), .lit (.int .u8 54), .lit (.int .u8 26), .lit (.int .u8 40), .lit (.int .u8 15), .lit (.int .u8 34), .lit (.int .u8 20), .lit (.int .u8 31), .lit (.int .u8 10), .lit (.int .u8 25), .lit (.int .u8 14), .lit (.int .u8 19), .lit (.int .u8 9), .lit (.int .u8 13), .lit (.int .u8 8), .lit (.int .u8 7), .lit (.int .u8 6)]
def laid_internal_strconv_uint64pow10 {H : Type} : DataW H := .agg [.lit (.int .u64 1), .lit (.int .u64 10), .lit (.int .u64 100), .lit (.int .u64 1000), .lit (.int .u64 10000), .lit (.int .u64 100000), .lit (.int .u64 1000000), .lit (.int .u64 10000000), .lit (.int .u64 100000000), .lit (.int .u64 1000000000), .lit (.int .u64 10000000000), .lit (.int .u64 100000000000), .lit (.int .u64 1000000000000), .lit (.int .u64 10000000000000), .lit (.int .u64 100000000000000), .lit (.int .u64 1000000000000000), .lit (.int .u64 10000000000000000), .lit (.int .u64 100000000000000000), .lit (.int .u64 1000000000000000000), .lit (.int .u64 10000000000000000000)]

/-- 'tenetlaw03.TermForms': WHATEVER THE INPUT: true; the input reads as it did. -/
def termFormsSpec : ChangeSpec := { name := "termForms", fn := fun _ => fun
  | [d] => { results := [.lit (.bool true)], args := [d] }
  | _ => none }
def termFormsRow : OpenClaim := { program := "ytfbecfnagidioaadoor", sum := "e82e62f8307d34799a0f94bdf6bdfb332dc8682b31e978e0216d74fca0a14ace", func := "tenet/tenetlaw03.TermForms", spec := "termForms", inPlace := ["internal/abi.NoEscape"], unfollowed := true, recurses := true, named := ["internal/strconv.uint64pow10", "math/bits.deBruijn32tab", "math/bits.deBruijn64tab"], loops := true, apart := false, laid := [("math/bits.deBruijn32tab", laid_math_bits_deBruijn32tab), ("math/bits.deBruijn64tab", laid_math_bits_deBruijn64tab), ("internal/strconv.uint64pow10", laid_internal_strconv_uint64pow10)] }
def TermFormsSaid : Prop := termFormsRow.holds Tryd.pinned (OpenSpec.ofChange termFormsSpec)

/-- ITS FALSE NEIGHBOUR: 'it returns false'. Refute it at one input. -/
def termFormsWrong : ChangeSpec := { name := "termForms", fn := fun _ => fun
  | [d] => { results := [.lit (.bool false)], args := [d] }
  | _ => none }
def TermFormsWrongFalsely : Prop := termFormsRow.holds Tryd.pinned (OpenSpec.ofChange termFormsWrong)

/-- 'tenetlaw03.TermCompares': WHATEVER THE INPUT: true; the input reads as it did. -/
def termComparesSpec : ChangeSpec := { name := "termCompares", fn := fun _ => fun
  | [d1, d2] => { results := [.lit (.bool true)], args := [d1, d2] }
  | _ => none }
def termComparesRow : OpenClaim := { program := "ytfbecfnagidioaadoor", sum := "e82e62f8307d34799a0f94bdf6bdfb332dc8682b31e978e0216d74fca0a14ace", func := "tenet/tenetlaw03.TermCompares", spec := "termCompares", inPlace := ["internal/abi.NoEscape"], unfollowed := true, recurses := true, named := ["internal/strconv.uint64pow10", "math/bits.deBruijn32tab", "math/bits.deBruijn64tab"], loops := true, apart := false, laid := [("math/bits.deBruijn32tab", laid_math_bits_deBruijn32tab), ("math/bits.deBruijn64tab", laid_math_bits_deBruijn64tab), ("internal/strconv.uint64pow10", laid_internal_strconv_uint64pow10)] }
def TermComparesSaid : Prop := termComparesRow.holds Tryd.pinned (OpenSpec.ofChange termComparesSpec)

/-- ITS FALSE NEIGHBOUR: 'it returns false'. Refute it at one input. -/
def termComparesWrong : ChangeSpec := { name := "termCompares", fn := fun _ => fun
  | [d1, d2] => { results := [.lit (.bool false)], args := [d1, d2] }
  | _ => none }
def TermComparesWrongFalsely : Prop := termComparesRow.holds Tryd.pinned (OpenSpec.ofChange termComparesWrong)

/-- 'tenetlaw03.TermShifts': WHATEVER THE INPUT: true; the input reads as it did. -/
def termShiftsSpec : ChangeSpec := { name := "termShifts", fn := fun _ => fun
  | [d1, d2, d3] => { results := [.lit (.bool true)], args := [d1, d2, d3] }
  | _ => none }
def termShiftsRow : OpenClaim := { program := "ytfbecfnagidioaadoor", sum := "e82e62f8307d34799a0f94bdf6bdfb332dc8682b31e978e0216d74fca0a14ace", func := "tenet/tenetlaw03.TermShifts", spec := "termShifts", inPlace := ["internal/abi.NoEscape"], unfollowed := true, recurses := true, named := ["internal/strconv.uint64pow10", "math/bits.deBruijn32tab", "math/bits.deBruijn64tab"], loops := true, apart := false, laid := [("math/bits.deBruijn32tab", laid_math_bits_deBruijn32tab), ("math/bits.deBruijn64tab", laid_math_bits_deBruijn64tab), ("internal/strconv.uint64pow10", laid_internal_strconv_uint64pow10)] }
def TermShiftsSaid : Prop := termShiftsRow.holds Tryd.pinned (OpenSpec.ofChange termShiftsSpec)

/-- ITS FALSE NEIGHBOUR: 'it returns false'. Refute it at one input. -/
def termShiftsWrong : ChangeSpec := { name := "termShifts", fn := fun _ => fun
  | [d1, d2, d3] => { results := [.lit (.bool false)], args := [d1, d2, d3] }
  | _ => none }
def TermShiftsWrongFalsely : Prop := termShiftsRow.holds Tryd.pinned (OpenSpec.ofChange termShiftsWrong)

/-- 'tenetlaw03.TermMoves': WHATEVER THE INPUT: true; the input reads as it did. -/
def termMovesSpec : ChangeSpec := { name := "termMoves", fn := fun _ => fun
  | [d1, d2, d3, d4] => { results := [.lit (.bool true)], args := [d1, d2, d3, d4] }
  | _ => none }
def termMovesRow : OpenClaim := { program := "ytfbecfnagidioaadoor", sum := "e82e62f8307d34799a0f94bdf6bdfb332dc8682b31e978e0216d74fca0a14ace", func := "tenet/tenetlaw03.TermMoves", spec := "termMoves", inPlace := ["internal/abi.NoEscape"], unfollowed := true, recurses := true, named := ["internal/strconv.uint64pow10", "math/bits.deBruijn32tab", "math/bits.deBruijn64tab"], loops := true, apart := false, laid := [("math/bits.deBruijn32tab", laid_math_bits_deBruijn32tab), ("math/bits.deBruijn64tab", laid_math_bits_deBruijn64tab), ("internal/strconv.uint64pow10", laid_internal_strconv_uint64pow10)] }
def TermMovesSaid : Prop := termMovesRow.holds Tryd.pinned (OpenSpec.ofChange termMovesSpec)

/-- ITS FALSE NEIGHBOUR: 'it returns false'. Refute it at one input. -/
def termMovesWrong : ChangeSpec := { name := "termMoves", fn := fun _ => fun
  | [d1, d2, d3, d4] => { results := [.lit (.bool false)], args := [d1, d2, d3, d4] }
  | _ => none }
def TermMovesWrongFalsely : Prop := termMovesRow.holds Tryd.pinned (OpenSpec.ofChange termMovesWrong)

/-- 'tenetlaw03.TermBinds': WHATEVER THE INPUT: true; the input reads as it did. -/
def termBindsSpec : ChangeSpec := { name := "termBinds", fn := fun _ => fun
  | [d1, d2] => { results := [.lit (.bool true)], args := [d1, d2] }
  | _ => none }
def termBindsRow : OpenClaim := { program := "ytfbecfnagidioaadoor", sum := "e82e62f8307d34799a0f94bdf6bdfb332dc8682b31e978e0216d74fca0a14ace", func := "tenet/tenetlaw03.TermBinds", spec := "termBinds", inPlace := ["internal/abi.NoEscape"], unfollowed := true, recurses := true, named := ["internal/strconv.uint64pow10", "math/bits.deBruijn32tab", "math/bits.deBruijn64tab"], loops := true, apart := false, laid := [("math/bits.deBruijn32tab", laid_math_bits_deBruijn32tab), ("math/bits.deBruijn64tab", laid_math_bits_deBruijn64tab), ("internal/strconv.uint64pow10", laid_internal_strconv_uint64pow10)] }
def TermBindsSaid : Prop := termBindsRow.holds Tryd.pinned (OpenSpec.ofChange termBindsSpec)

/-- ITS FALSE NEIGHBOUR: 'it returns false'. Refute it at one input. -/
def termBindsWrong : ChangeSpec := { name := "termBinds", fn := fun _ => fun
  | [d1, d2] => { results := [.lit (.bool false)], args := [d1, d2] }
  | _ => none }
def TermBindsWrongFalsely : Prop := termBindsRow.holds Tryd.pinned (OpenSpec.ofChange termBindsWrong)

/-- 'tenetlaw03.TermTwice': WHATEVER THE INPUT: true; the input reads as it did. -/
def termTwiceSpec : ChangeSpec := { name := "termTwice", fn := fun _ => fun
  | [d1, d2] => { results := [.lit (.bool true)], args := [d1, d2] }
  | _ => none }
def termTwiceRow : OpenClaim := { program := "ytfbecfnagidioaadoor", sum := "e82e62f8307d34799a0f94bdf6bdfb332dc8682b31e978e0216d74fca0a14ace", func := "tenet/tenetlaw03.TermTwice", spec := "termTwice", inPlace := ["internal/abi.NoEscape"], unfollowed := true, recurses := true, named := ["internal/strconv.uint64pow10", "math/bits.deBruijn32tab", "math/bits.deBruijn64tab"], loops := true, apart := false, laid := [("math/bits.deBruijn32tab", laid_math_bits_deBruijn32tab), ("math/bits.deBruijn64tab", laid_math_bits_deBruijn64tab), ("internal/strconv.uint64pow10", laid_internal_strconv_uint64pow10)] }
def TermTwiceSaid : Prop := termTwiceRow.holds Tryd.pinned (OpenSpec.ofChange termTwiceSpec)

/-- ITS FALSE NEIGHBOUR: 'it returns false'. Refute it at one input. -/
def termTwiceWrong : ChangeSpec := { name := "termTwice", fn := fun _ => fun
  | [d1, d2] => { results := [.lit (.bool false)], args := [d1, d2] }
  | _ => none }
def TermTwiceWrongFalsely : Prop := termTwiceRow.holds Tryd.pinned (OpenSpec.ofChange termTwiceWrong)

/-- 'tenetlaw03.TermPaths': WHATEVER THE INPUT: true; the input reads as it did. -/
def termPathsSpec : ChangeSpec := { name := "termPaths", fn := fun _ => fun
  | [d1, d2, d3] => { results := [.lit (.bool true)], args := [d1, d2, d3] }
  | _ => none }
def termPathsRow : OpenClaim := { program := "ytfbecfnagidioaadoor", sum := "e82e62f8307d34799a0f94bdf6bdfb332dc8682b31e978e0216d74fca0a14ace", func := "tenet/tenetlaw03.TermPaths", spec := "termPaths", inPlace := ["internal/abi.NoEscape"], unfollowed := true, recurses := true, named := ["internal/strconv.uint64pow10", "math/bits.deBruijn32tab", "math/bits.deBruijn64tab"], loops := true, apart := false, laid := [("math/bits.deBruijn32tab", laid_math_bits_deBruijn32tab), ("math/bits.deBruijn64tab", laid_math_bits_deBruijn64tab), ("internal/strconv.uint64pow10", laid_internal_strconv_uint64pow10)] }
def TermPathsSaid : Prop := termPathsRow.holds Tryd.pinned (OpenSpec.ofChange termPathsSpec)

/-- ITS FALSE NEIGHBOUR: 'it returns false'. Refute it at one input. -/
def termPathsWrong : ChangeSpec := { name := "termPaths", fn := fun _ => fun
  | [d1, d2, d3] => { results := [.lit (.bool false)], args := [d1, d2, d3] }
  | _ => none }
def TermPathsWrongFalsely : Prop := termPathsRow.holds Tryd.pinned (OpenSpec.ofChange termPathsWrong)

/-- 'tenetlaw03.TermStands': WHATEVER THE INPUT: true; the input reads as it did. -/
def termStandsSpec : ChangeSpec := { name := "termStands", fn := fun _ => fun
  | [d1, d2, d3] => { results := [.lit (.bool true)], args := [d1, d2, d3] }
  | _ => none }
def termStandsRow : OpenClaim := { program := "ytfbecfnagidioaadoor", sum := "e82e62f8307d34799a0f94bdf6bdfb332dc8682b31e978e0216d74fca0a14ace", func := "tenet/tenetlaw03.TermStands", spec := "termStands", inPlace := ["internal/abi.NoEscape"], unfollowed := true, recurses := true, named := ["internal/strconv.uint64pow10", "math/bits.deBruijn32tab", "math/bits.deBruijn64tab"], loops := true, apart := false, laid := [("math/bits.deBruijn32tab", laid_math_bits_deBruijn32tab), ("math/bits.deBruijn64tab", laid_math_bits_deBruijn64tab), ("internal/strconv.uint64pow10", laid_internal_strconv_uint64pow10)] }
def TermStandsSaid : Prop := termStandsRow.holds Tryd.pinned (OpenSpec.ofChange termStandsSpec)

/-- ITS FALSE NEIGHBOUR: 'it returns false'. Refute it at one input. -/
def termStandsWrong : ChangeSpec := { name := "termStands", fn := fun _ => fun
  | [d1, d2, d3] => { results := [.lit (.bool false)], args := [d1, d2, d3] }
  | _ => none }
def TermStandsWrongFalsely : Prop := termStandsRow.holds Tryd.pinned (OpenSpec.ofChange termStandsWrong)

/-- 'tenetlaw03.TermAlikes': WHATEVER THE INPUT: true; the input reads as it did. -/
def termAlikesSpec : ChangeSpec := { name := "termAlikes", fn := fun _ => fun
  | [d1, d2, d3, d4] => { results := [.lit (.bool true)], args := [d1, d2, d3, d4] }
  | _ => none }
def termAlikesRow : OpenClaim := { program := "ytfbecfnagidioaadoor", sum := "e82e62f8307d34799a0f94bdf6bdfb332dc8682b31e978e0216d74fca0a14ace", func := "tenet/tenetlaw03.TermAlikes", spec := "termAlikes", inPlace := ["internal/abi.NoEscape"], unfollowed := true, recurses := true, named := ["internal/strconv.uint64pow10", "math/bits.deBruijn32tab", "math/bits.deBruijn64tab"], loops := true, apart := false, laid := [("math/bits.deBruijn32tab", laid_math_bits_deBruijn32tab), ("math/bits.deBruijn64tab", laid_math_bits_deBruijn64tab), ("internal/strconv.uint64pow10", laid_internal_strconv_uint64pow10)] }
def TermAlikesSaid : Prop := termAlikesRow.holds Tryd.pinned (OpenSpec.ofChange termAlikesSpec)

/-- ITS FALSE NEIGHBOUR: 'it returns false'. Refute it at one input. -/
def termAlikesWrong : ChangeSpec := { name := "termAlikes", fn := fun _ => fun
  | [d1, d2, d3, d4] => { results := [.lit (.bool false)], args := [d1, d2, d3, d4] }
  | _ => none }
def TermAlikesWrongFalsely : Prop := termAlikesRow.holds Tryd.pinned (OpenSpec.ofChange termAlikesWrong)

/- THE SECOND FORM. 'bulk': how many values and letters a reading holds, each counted each time it is reached (what is shared counts as often as it is met; a slice's spare places count too). A statement '..UptoSaid' is the law's where the arguments, and the package variables that the reading takes, are together of bulk at most 1048576: NARROWER than '..Said'. Prove '..Said' where nothing that the law and all that it calls make is longer than what came in: it says more and counts as full. Else prove '..UptoSaid'. A law counts once. -/
mutual
def uptoBulk {H : Type} : DataW H → Nat
  | .lit (.string bytes) => bytes.length + 1
  | .lit _ => 1
  | .nil => 1
  | .ptr d => uptoBulk d + 1
  | .slice elems spare => uptoBulkAll elems + uptoBulkAll spare + 1
  | .agg parts => uptoBulkAll parts + 1
  | .iface _ d => uptoBulk d + 1
  | .map entries => uptoBulkEntries entries + 1
  | .held _ => 1
def uptoBulkAll {H : Type} : List (DataW H) → Nat
  | [] => 0
  | d :: r => uptoBulk d + uptoBulkAll r
def uptoBulkEntries {H : Type} : List (Lit × DataW H) → Nat
  | [] => 0
  | x :: r => uptoBulkEntry x + uptoBulkEntries r
def uptoBulkEntry {H : Type} : Lit × DataW H → Nat
  | (.string bytes, d) => bytes.length + uptoBulk d + 1
  | (_, d) => uptoBulk d + 1
 end
def uptoSmall : (H : Type) → List (DataW H) → Bool := fun _ ds => decide (uptoBulkAll ds ≤ 1048576)
def OpenSpec.upto (s : _root_.Go.ChangeSpec) : _root_.Go.OpenSpec := { _root_.Go.OpenSpec.ofChange s with cond := some uptoSmall }

/-- 'tenetlaw03.TermForms', WHERE WHAT IT READS IS OF BULK AT MOST 1048576: true; the input reads as it did. -/
def termFormsUptoRow : OpenClaim := { program := "ytfbecfnagidioaadoor", sum := "e82e62f8307d34799a0f94bdf6bdfb332dc8682b31e978e0216d74fca0a14ace", func := "tenet/tenetlaw03.TermForms", spec := "termForms", inPlace := ["internal/abi.NoEscape"], unfollowed := true, recurses := true, named := ["internal/strconv.uint64pow10", "math/bits.deBruijn32tab", "math/bits.deBruijn64tab"], loops := true, apart := false, laid := [("math/bits.deBruijn32tab", laid_math_bits_deBruijn32tab), ("math/bits.deBruijn64tab", laid_math_bits_deBruijn64tab), ("internal/strconv.uint64pow10", laid_internal_strconv_uint64pow10)], narrowed := true }
def TermFormsUptoSaid : Prop := termFormsUptoRow.holds Tryd.pinned (OpenSpec.upto termFormsSpec)

/-- 'tenetlaw03.TermCompares', WHERE WHAT IT READS IS OF BULK AT MOST 1048576: true; the input reads as it did. -/
def termComparesUptoRow : OpenClaim := { program := "ytfbecfnagidioaadoor", sum := "e82e62f8307d34799a0f94bdf6bdfb332dc8682b31e978e0216d74fca0a14ace", func := "tenet/tenetlaw03.TermCompares", spec := "termCompares", inPlace := ["internal/abi.NoEscape"], unfollowed := true, recurses := true, named := ["internal/strconv.uint64pow10", "math/bits.deBruijn32tab", "math/bits.deBruijn64tab"], loops := true, apart := false, laid := [("math/bits.deBruijn32tab", laid_math_bits_deBruijn32tab), ("math/bits.deBruijn64tab", laid_math_bits_deBruijn64tab), ("internal/strconv.uint64pow10", laid_internal_strconv_uint64pow10)], narrowed := true }
def TermComparesUptoSaid : Prop := termComparesUptoRow.holds Tryd.pinned (OpenSpec.upto termComparesSpec)

/-- 'tenetlaw03.TermShifts', WHERE WHAT IT READS IS OF BULK AT MOST 1048576: true; the input reads as it did. -/
def termShiftsUptoRow : OpenClaim := { program := "ytfbecfnagidioaadoor", sum := "e82e62f8307d34799a0f94bdf6bdfb332dc8682b31e978e0216d74fca0a14ace", func := "tenet/tenetlaw03.TermShifts", spec := "termShifts", inPlace := ["internal/abi.NoEscape"], unfollowed := true, recurses := true, named := ["internal/strconv.uint64pow10", "math/bits.deBruijn32tab", "math/bits.deBruijn64tab"], loops := true, apart := false, laid := [("math/bits.deBruijn32tab", laid_math_bits_deBruijn32tab), ("math/bits.deBruijn64tab", laid_math_bits_deBruijn64tab), ("internal/strconv.uint64pow10", laid_internal_strconv_uint64pow10)], narrowed := true }
def TermShiftsUptoSaid : Prop := termShiftsUptoRow.holds Tryd.pinned (OpenSpec.upto termShiftsSpec)

/-- 'tenetlaw03.TermMoves', WHERE WHAT IT READS IS OF BULK AT MOST 1048576: true; the input reads as it did. -/
def termMovesUptoRow : OpenClaim := { program := "ytfbecfnagidioaadoor", sum := "e82e62f8307d34799a0f94bdf6bdfb332dc8682b31e978e0216d74fca0a14ace", func := "tenet/tenetlaw03.TermMoves", spec := "termMoves", inPlace := ["internal/abi.NoEscape"], unfollowed := true, recurses := true, named := ["internal/strconv.uint64pow10", "math/bits.deBruijn32tab", "math/bits.deBruijn64tab"], loops := true, apart := false, laid := [("math/bits.deBruijn32tab", laid_math_bits_deBruijn32tab), ("math/bits.deBruijn64tab", laid_math_bits_deBruijn64tab), ("internal/strconv.uint64pow10", laid_internal_strconv_uint64pow10)], narrowed := true }
def TermMovesUptoSaid : Prop := termMovesUptoRow.holds Tryd.pinned (OpenSpec.upto termMovesSpec)

/-- 'tenetlaw03.TermBinds', WHERE WHAT IT READS IS OF BULK AT MOST 1048576: true; the input reads as it did. -/
def termBindsUptoRow : OpenClaim := { program := "ytfbecfnagidioaadoor", sum := "e82e62f8307d34799a0f94bdf6bdfb332dc8682b31e978e0216d74fca0a14ace", func := "tenet/tenetlaw03.TermBinds", spec := "termBinds", inPlace := ["internal/abi.NoEscape"], unfollowed := true, recurses := true, named := ["internal/strconv.uint64pow10", "math/bits.deBruijn32tab", "math/bits.deBruijn64tab"], loops := true, apart := false, laid := [("math/bits.deBruijn32tab", laid_math_bits_deBruijn32tab), ("math/bits.deBruijn64tab", laid_math_bits_deBruijn64tab), ("internal/strconv.uint64pow10", laid_internal_strconv_uint64pow10)], narrowed := true }
def TermBindsUptoSaid : Prop := termBindsUptoRow.holds Tryd.pinned (OpenSpec.upto termBindsSpec)

/-- 'tenetlaw03.TermTwice', WHERE WHAT IT READS IS OF BULK AT MOST 1048576: true; the input reads as it did. -/
def termTwiceUptoRow : OpenClaim := { program := "ytfbecfnagidioaadoor", sum := "e82e62f8307d34799a0f94bdf6bdfb332dc8682b31e978e0216d74fca0a14ace", func := "tenet/tenetlaw03.TermTwice", spec := "termTwice", inPlace := ["internal/abi.NoEscape"], unfollowed := true, recurses := true, named := ["internal/strconv.uint64pow10", "math/bits.deBruijn32tab", "math/bits.deBruijn64tab"], loops := true, apart := false, laid := [("math/bits.deBruijn32tab", laid_math_bits_deBruijn32tab), ("math/bits.deBruijn64tab", laid_math_bits_deBruijn64tab), ("internal/strconv.uint64pow10", laid_internal_strconv_uint64pow10)], narrowed := true }
def TermTwiceUptoSaid : Prop := termTwiceUptoRow.holds Tryd.pinned (OpenSpec.upto termTwiceSpec)

/-- 'tenetlaw03.TermPaths', WHERE WHAT IT READS IS OF BULK AT MOST 1048576: true; the input reads as it did. -/
def termPathsUptoRow : OpenClaim := { program := "ytfbecfnagidioaadoor", sum := "e82e62f8307d34799a0f94bdf6bdfb332dc8682b31e978e0216d74fca0a14ace", func := "tenet/tenetlaw03.TermPaths", spec := "termPaths", inPlace := ["internal/abi.NoEscape"], unfollowed := true, recurses := true, named := ["internal/strconv.uint64pow10", "math/bits.deBruijn32tab", "math/bits.deBruijn64tab"], loops := true, apart := false, laid := [("math/bits.deBruijn32tab", laid_math_bits_deBruijn32tab), ("math/bits.deBruijn64tab", laid_math_bits_deBruijn64tab), ("internal/strconv.uint64pow10", laid_internal_strconv_uint64pow10)], narrowed := true }
def TermPathsUptoSaid : Prop := termPathsUptoRow.holds Tryd.pinned (OpenSpec.upto termPathsSpec)

/-- 'tenetlaw03.TermStands', WHERE WHAT IT READS IS OF BULK AT MOST 1048576: true; the input reads as it did. -/
def termStandsUptoRow : OpenClaim := { program := "ytfbecfnagidioaadoor", sum := "e82e62f8307d34799a0f94bdf6bdfb332dc8682b31e978e0216d74fca0a14ace", func := "tenet/tenetlaw03.TermStands", spec := "termStands", inPlace := ["internal/abi.NoEscape"], unfollowed := true, recurses := true, named := ["internal/strconv.uint64pow10", "math/bits.deBruijn32tab", "math/bits.deBruijn64tab"], loops := true, apart := false, laid := [("math/bits.deBruijn32tab", laid_math_bits_deBruijn32tab), ("math/bits.deBruijn64tab", laid_math_bits_deBruijn64tab), ("internal/strconv.uint64pow10", laid_internal_strconv_uint64pow10)], narrowed := true }
def TermStandsUptoSaid : Prop := termStandsUptoRow.holds Tryd.pinned (OpenSpec.upto termStandsSpec)

/-- 'tenetlaw03.TermAlikes', WHERE WHAT IT READS IS OF BULK AT MOST 1048576: true; the input reads as it did. -/
def termAlikesUptoRow : OpenClaim := { program := "ytfbecfnagidioaadoor", sum := "e82e62f8307d34799a0f94bdf6bdfb332dc8682b31e978e0216d74fca0a14ace", func := "tenet/tenetlaw03.TermAlikes", spec := "termAlikes", inPlace := ["internal/abi.NoEscape"], unfollowed := true, recurses := true, named := ["internal/strconv.uint64pow10", "math/bits.deBruijn32tab", "math/bits.deBruijn64tab"], loops := true, apart := false, laid := [("math/bits.deBruijn32tab", laid_math_bits_deBruijn32tab), ("math/bits.deBruijn64tab", laid_math_bits_deBruijn64tab), ("internal/strconv.uint64pow10", laid_internal_strconv_uint64pow10)], narrowed := true }
def TermAlikesUptoSaid : Prop := termAlikesUptoRow.holds Tryd.pinned (OpenSpec.upto termAlikesSpec)

end Rows
end Go.Proofs.YtfbecfnagidioaaDoor
