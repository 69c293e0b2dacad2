/- Part of the proof: LevT, LV1, LV2, LV3, LV4, LV5. -/
import Derived.Test.YtjfkhhenccochaaDoorProg
import Derived.Test.YtjfkhhenccochaaDoorGV4
import Derived.Test.YtjfkhhenccochaaDoorGV5
/- The seat's types, as the logic of abstract states reads them. -/

set_option maxRecDepth 100000
namespace Go.VM
def tbl : Tables where
  n := 144
  m := 131
  bare := [0, 1, 96, 108, 109, 110, 111, 112, 113, 114, 115, 116, 117, 118, 119, 120, 121, 122, 123, 124, 125, 126, 127, 128, 129]
  eqs := [(50, [.int, .int])]
  bld := 82
  tree := (.node (.node (.node (.node (.node (.node (.node (.node .nil
 (some ⟨(.array 20 101), 20, 160, [.d (.int .u64 (0)), .d (.int .u64 (0)), .d (.int .u64 (0)), .d (.int .u64 (0)), .d (.int .u64 (0)), .d (.int .u64 (0)), .d (.int .u64 (0)), .d (.int .u64 (0)), .d (.int .u64 (0)), .d (.int .u64 (0)), .d (.int .u64 (0)), .d (.int .u64 (0)), .d (.int .u64 (0)), .d (.int .u64 (0)), .d (.int .u64 (0)), .d (.int .u64 (0)), .d (.int .u64 (0)), .d (.int .u64 (0)), .d (.int .u64 (0)), .d (.int .u64 (0))]⟩) .nil)
 (some ⟨.func, 1, 8, [.d .nilf]⟩) .nil)
 (some ⟨.func, 1, 8, [.d .nilf]⟩) (.node .nil
 (some ⟨.func, 1, 8, [.d .nilf]⟩) .nil))
 (some ⟨(.pointer 133), 1, 8, [.d .nilp]⟩) (.node (.node (.node .nil
 (some ⟨(.struct [(0, 12), (1, 12), (2, 36), (3, 137), (4, 5), (5, 5), (6, 138), (7, 139), (8, 103), (9, 140), (10, 141)]), 11, 48, [.d (.int .u64 (0)), .d (.int .u64 (0)), .d (.int .u32 (0)), .d (.int .u8 (0)), .d (.int .u8 (0)), .d (.int .u8 (0)), .d (.int .u8 (0)), .d .nilf, .d .nilp, .d (.int .i32 (0)), .d (.int .i32 (0))]⟩) .nil)
 (some ⟨(.pointer 82), 1, 8, [.d .nilp]⟩) .nil)
 (some ⟨.func, 1, 8, [.d .nilf]⟩) (.node .nil
 (some ⟨.func, 1, 8, [.d .nilf]⟩) .nil)))
 (some ⟨(.struct [(0, 2), (1, 3), (2, 4), (3, 6)]), 4, 24, [.d (.int .i64 (0)), .d (.int .i64 (0)), .d (.bool false), .d (.int .u8 (0))]⟩) (.node (.node (.node (.node .nil
 (some ⟨(.struct [(0, 134)]), 0, 0, []⟩) .nil)
 (some ⟨.func, 1, 8, [.d .nilf]⟩) .nil)
 (some ⟨.func, 1, 8, [.d .nilf]⟩) (.node .nil
 (some ⟨(.pointer 5), 1, 8, [.d .nilp]⟩) .nil))
 (some ⟨(.struct [(0, 3), (1, 22)]), 2, 32, [.d (.int .i64 (0)), .nils]⟩) (.node (.node .nil
 (some ⟨.func, 1, 8, [.d .nilf]⟩) .nil)
 none .nil)))
 (some ⟨(.int .i64), 1, 8, [.d (.int .i64 (0))]⟩) (.node (.node (.node (.node (.node .nil
 (some ⟨(.array 64 5), 64, 64, [.d (.int .u8 (0)), .d (.int .u8 (0)), .d (.int .u8 (0)), .d (.int .u8 (0)), .d (.int .u8 (0)), .d (.int .u8 (0)), .d (.int .u8 (0)), .d (.int .u8 (0)), .d (.int .u8 (0)), .d (.int .u8 (0)), .d (.int .u8 (0)), .d (.int .u8 (0)), .d (.int .u8 (0)), .d (.int .u8 (0)), .d (.int .u8 (0)), .d (.int .u8 (0)), .d (.int .u8 (0)), .d (.int .u8 (0)), .d (.int .u8 (0)), .d (.int .u8 (0)), .d (.int .u8 (0)), .d (.int .u8 (0)), .d (.int .u8 (0)), .d (.int .u8 (0)), .d (.int .u8 (0)), .d (.int .u8 (0)), .d (.int .u8 (0)), .d (.int .u8 (0)), .d (.int .u8 (0)), .d (.int .u8 (0)), .d (.int .u8 (0)), .d (.int .u8 (0)), .d (.int .u8 (0)), .d (.int .u8 (0)), .d (.int .u8 (0)), .d (.int .u8 (0)), .d (.int .u8 (0)), .d (.int .u8 (0)), .d (.int .u8 (0)), .d (.int .u8 (0)), .d (.int .u8 (0)), .d (.int .u8 (0)), .d (.int .u8 (0)), .d (.int .u8 (0)), .d (.int .u8 (0)), .d (.int .u8 (0)), .d (.int .u8 (0)), .d (.int .u8 (0)), .d (.int .u8 (0)), .d (.int .u8 (0)), .d (.int .u8 (0)), .d (.int .u8 (0)), .d (.int .u8 (0)), .d (.int .u8 (0)), .d (.int .u8 (0)), .d (.int .u8 (0)), .d (.int .u8 (0)), .d (.int .u8 (0)), .d (.int .u8 (0)), .d (.int .u8 (0)), .d (.int .u8 (0)), .d (.int .u8 (0)), .d (.int .u8 (0)), .d (.int .u8 (0))]⟩) .nil)
 (some ⟨.func, 1, 8, [.d .nilf]⟩) .nil)
 (some ⟨.func, 1, 8, [.d .nilf]⟩) (.node .nil
 (some ⟨.func, 1, 8, [.d .nilf]⟩) .nil))
 (some ⟨(.struct [(0, 17)]), 1, 8, [.d .nilp]⟩) (.node (.node .nil
 (some ⟨.func, 1, 8, [.d .nilf]⟩) .nil)
 (some ⟨(.slice 50), 1, 24, [.nils]⟩) (.node .nil
 (some ⟨(.array 24 5), 24, 24, [.d (.int .u8 (0)), .d (.int .u8 (0)), .d (.int .u8 (0)), .d (.int .u8 (0)), .d (.int .u8 (0)), .d (.int .u8 (0)), .d (.int .u8 (0)), .d (.int .u8 (0)), .d (.int .u8 (0)), .d (.int .u8 (0)), .d (.int .u8 (0)), .d (.int .u8 (0)), .d (.int .u8 (0)), .d (.int .u8 (0)), .d (.int .u8 (0)), .d (.int .u8 (0)), .d (.int .u8 (0)), .d (.int .u8 (0)), .d (.int .u8 (0)), .d (.int .u8 (0)), .d (.int .u8 (0)), .d (.int .u8 (0)), .d (.int .u8 (0)), .d (.int .u8 (0))]⟩) .nil)))
 (some ⟨.string, 1, 16, [.d (.str ⟨#[]⟩)]⟩) (.node (.node (.node (.node .nil
 (some ⟨.func, 1, 8, [.d .nilf]⟩) .nil)
 (some ⟨.func, 1, 8, [.d .nilf]⟩) .nil)
 (some ⟨.func, 1, 8, [.d .nilf]⟩) (.node .nil
 (some ⟨.func, 1, 8, [.d .nilf]⟩) .nil))
 (some ⟨.func, 1, 8, [.d .nilf]⟩) (.node (.node .nil
 (some ⟨(.int .i64), 1, 8, [.d (.int .i64 (0))]⟩) .nil)
 (some ⟨.func, 1, 8, [.d .nilf]⟩) (.node .nil
 (some ⟨(.pointer 109), 1, 8, [.d .nilp]⟩) .nil)))))
 (some ⟨.func, 1, 8, [.d .nilf]⟩) (.node (.node (.node (.node (.node (.node .nil
 (some ⟨.func, 1, 8, [.d .nilf]⟩) .nil)
 (some ⟨.func, 1, 8, [.d .nilf]⟩) .nil)
 (some ⟨(.slice 36), 1, 24, [.nils]⟩) .nil)
 (some ⟨(.pointer 143), 1, 8, [.d .nilp]⟩) (.node (.node .nil
 (some ⟨(.struct [(0, 79), (1, 80)]), 2, 32, [.d .nilp, .nils]⟩) .nil)
 (some ⟨(.struct [(0, 3), (1, 3)]), 2, 16, [.d (.int .i64 (0)), .d (.int .i64 (0))]⟩) (.node .nil
 (some ⟨(.pointer 3), 1, 8, [.d .nilp]⟩) .nil)))
 (some ⟨.string, 1, 16, [.d (.str ⟨#[]⟩)]⟩) (.node (.node (.node (.node .nil
 (some ⟨(.int .u8), 1, 1, [.d (.int .u8 (0))]⟩) .nil)
 (some ⟨.func, 1, 8, [.d .nilf]⟩) .nil)
 (some ⟨.func, 1, 8, [.d .nilf]⟩) (.node .nil
 (some ⟨.func, 1, 8, [.d .nilf]⟩) .nil))
 (some ⟨.func, 1, 8, [.d .nilf]⟩) (.node (.node .nil
 (some ⟨.func, 1, 8, [.d .nilf]⟩) .nil)
 (some ⟨.func, 1, 8, [.d .nilf]⟩) (.node .nil
 (some ⟨.func, 1, 8, [.d .nilf]⟩) .nil))))
 (some ⟨(.int .u8), 1, 1, [.d (.int .u8 (0))]⟩) (.node (.node (.node (.node (.node .nil
 (some ⟨(.struct [(0, 17), (1, 17), (2, 17), (3, 9)]), 4, 40, [.d .nilp, .d .nilp, .d .nilp, .d (.str ⟨#[]⟩)]⟩) .nil)
 (some ⟨.func, 1, 8, [.d .nilf]⟩) .nil)
 (some ⟨.func, 1, 8, [.d .nilf]⟩) (.node .nil
 (some ⟨(.int .u64), 1, 8, [.d (.int .u64 (0))]⟩) .nil))
 (some ⟨(.int .i32), 1, 4, [.d (.int .i32 (0))]⟩) (.node .nil
 (some ⟨.func, 1, 8, [.d .nilf]⟩) .nil))
 (some ⟨(.struct [(0, 9), (1, 12)]), 2, 24, [.d (.str ⟨#[]⟩), .d (.int .u64 (0))]⟩) (.node (.node (.node (.node .nil
 (some ⟨(.int .i32), 1, 4, [.d (.int .i32 (0))]⟩) .nil)
 (some ⟨.func, 1, 8, [.d .nilf]⟩) .nil)
 (some ⟨.func, 1, 8, [.d .nilf]⟩) (.node .nil
 (some ⟨(.int .u64), 1, 8, [.d (.int .u64 (0))]⟩) .nil))
 (some ⟨(.int .i64), 1, 8, [.d (.int .i64 (0))]⟩) (.node (.node .nil
 (some ⟨.func, 1, 8, [.d .nilf]⟩) .nil)
 (some ⟨.func, 1, 8, [.d .nilf]⟩) (.node .nil
 (some ⟨.func, 1, 8, [.d .nilf]⟩) .nil))))))
 none (.node (.node (.node (.node (.node (.node (.node .nil
 (some ⟨(.array 65 5), 65, 65, [.d (.int .u8 (0)), .d (.int .u8 (0)), .d (.int .u8 (0)), .d (.int .u8 (0)), .d (.int .u8 (0)), .d (.int .u8 (0)), .d (.int .u8 (0)), .d (.int .u8 (0)), .d (.int .u8 (0)), .d (.int .u8 (0)), .d (.int .u8 (0)), .d (.int .u8 (0)), .d (.int .u8 (0)), .d (.int .u8 (0)), .d (.int .u8 (0)), .d (.int .u8 (0)), .d (.int .u8 (0)), .d (.int .u8 (0)), .d (.int .u8 (0)), .d (.int .u8 (0)), .d (.int .u8 (0)), .d (.int .u8 (0)), .d (.int .u8 (0)), .d (.int .u8 (0)), .d (.int .u8 (0)), .d (.int .u8 (0)), .d (.int .u8 (0)), .d (.int .u8 (0)), .d (.int .u8 (0)), .d (.int .u8 (0)), .d (.int .u8 (0)), .d (.int .u8 (0)), .d (.int .u8 (0)), .d (.int .u8 (0)), .d (.int .u8 (0)), .d (.int .u8 (0)), .d (.int .u8 (0)), .d (.int .u8 (0)), .d (.int .u8 (0)), .d (.int .u8 (0)), .d (.int .u8 (0)), .d (.int .u8 (0)), .d (.int .u8 (0)), .d (.int .u8 (0)), .d (.int .u8 (0)), .d (.int .u8 (0)), .d (.int .u8 (0)), .d (.int .u8 (0)), .d (.int .u8 (0)), .d (.int .u8 (0)), .d (.int .u8 (0)), .d (.int .u8 (0)), .d (.int .u8 (0)), .d (.int .u8 (0)), .d (.int .u8 (0)), .d (.int .u8 (0)), .d (.int .u8 (0)), .d (.int .u8 (0)), .d (.int .u8 (0)), .d (.int .u8 (0)), .d (.int .u8 (0)), .d (.int .u8 (0)), .d (.int .u8 (0)), .d (.int .u8 (0)), .d (.int .u8 (0))]⟩) .nil)
 (some ⟨.func, 1, 8, [.d .nilf]⟩) .nil)
 (some ⟨.func, 1, 8, [.d .nilf]⟩) (.node .nil
 (some ⟨.func, 1, 8, [.d .nilf]⟩) .nil))
 (some ⟨(.pointer 136), 1, 8, [.d .nilp]⟩) (.node (.node .nil
 (some ⟨(.slice 5), 1, 24, [.nils]⟩) .nil)
 (some ⟨.func, 1, 8, [.d .nilf]⟩) (.node .nil
 (some ⟨.func, 1, 8, [.d .nilf]⟩) .nil)))
 (some ⟨(.struct [(0, 2), (1, 3), (2, 4), (3, 6)]), 4, 24, [.d (.int .i64 (0)), .d (.int .i64 (0)), .d (.bool false), .d (.int .u8 (0))]⟩) (.node (.node (.node (.node .nil
 (some ⟨(.struct [(0, 134)]), 0, 0, []⟩) .nil)
 (some ⟨.func, 1, 8, [.d .nilf]⟩) .nil)
 (some ⟨.func, 1, 8, [.d .nilf]⟩) (.node .nil
 (some ⟨.func, 1, 8, [.d .nilf]⟩) .nil))
 (some ⟨(.struct [(0, 3), (1, 22)]), 2, 32, [.d (.int .i64 (0)), .nils]⟩) (.node (.node .nil
 (some ⟨.func, 1, 8, [.d .nilf]⟩) .nil)
 (some ⟨.func, 1, 8, [.d .nilf]⟩) (.node .nil
 (some ⟨.func, 1, 8, [.d .nilf]⟩) .nil))))
 (some ⟨.bool, 1, 1, [.d (.bool false)]⟩) (.node (.node (.node (.node (.node .nil
 (some ⟨(.struct [(0, 17), (1, 17), (2, 17), (3, 9)]), 4, 40, [.d .nilp, .d .nilp, .d .nilp, .d (.str ⟨#[]⟩)]⟩) .nil)
 (some ⟨.func, 1, 8, [.d .nilf]⟩) .nil)
 (some ⟨(.int .u32), 1, 4, [.d (.int .u32 (0))]⟩) (.node .nil
 (some ⟨.func, 1, 8, [.d .nilf]⟩) .nil))
 none (.node .nil
 (some ⟨.func, 1, 8, [.d .nilf]⟩) (.node .nil
 (some ⟨.func, 1, 8, [.d .nilf]⟩) .nil)))
 (some ⟨(.int .u64), 1, 8, [.d (.int .u64 (0))]⟩) (.node (.node (.node (.node .nil
 (some ⟨(.int .i32), 1, 4, [.d (.int .i32 (0))]⟩) .nil)
 (some ⟨.func, 1, 8, [.d .nilf]⟩) .nil)
 (some ⟨.func, 1, 8, [.d .nilf]⟩) (.node .nil
 (some ⟨.func, 1, 8, [.d .nilf]⟩) .nil))
 (some ⟨(.slice 3), 1, 24, [.nils]⟩) (.node .nil
 (some ⟨.func, 1, 8, [.d .nilf]⟩) .nil))))
 (some ⟨(.int .i64), 1, 8, [.d (.int .i64 (0))]⟩) (.node (.node (.node (.node (.node (.node .nil
 (some ⟨(.array 32 5), 32, 32, [.d (.int .u8 (0)), .d (.int .u8 (0)), .d (.int .u8 (0)), .d (.int .u8 (0)), .d (.int .u8 (0)), .d (.int .u8 (0)), .d (.int .u8 (0)), .d (.int .u8 (0)), .d (.int .u8 (0)), .d (.int .u8 (0)), .d (.int .u8 (0)), .d (.int .u8 (0)), .d (.int .u8 (0)), .d (.int .u8 (0)), .d (.int .u8 (0)), .d (.int .u8 (0)), .d (.int .u8 (0)), .d (.int .u8 (0)), .d (.int .u8 (0)), .d (.int .u8 (0)), .d (.int .u8 (0)), .d (.int .u8 (0)), .d (.int .u8 (0)), .d (.int .u8 (0)), .d (.int .u8 (0)), .d (.int .u8 (0)), .d (.int .u8 (0)), .d (.int .u8 (0)), .d (.int .u8 (0)), .d (.int .u8 (0)), .d (.int .u8 (0)), .d (.int .u8 (0))]⟩) .nil)
 (some ⟨.func, 1, 8, [.d .nilf]⟩) .nil)
 (some ⟨.func, 1, 8, [.d .nilf]⟩) (.node .nil
 (some ⟨.func, 1, 8, [.d .nilf]⟩) .nil))
 (some ⟨(.struct [(0, 17)]), 1, 8, [.d .nilp]⟩) (.node (.node .nil
 (some ⟨(.struct [(0, 79), (1, 80)]), 2, 32, [.d .nilp, .nils]⟩) .nil)
 (some ⟨(.struct [(0, 3), (1, 3)]), 2, 16, [.d (.int .i64 (0)), .d (.int .i64 (0))]⟩) (.node .nil
 (some ⟨.func, 1, 8, [.d .nilf]⟩) .nil)))
 (some ⟨.string, 1, 16, [.d (.str ⟨#[]⟩)]⟩) (.node (.node (.node (.node .nil
 (some ⟨(.int .u8), 1, 1, [.d (.int .u8 (0))]⟩) .nil)
 (some ⟨.func, 1, 8, [.d .nilf]⟩) .nil)
 (some ⟨(.slice 24), 1, 24, [.nils]⟩) (.node .nil
 (some ⟨.func, 1, 8, [.d .nilf]⟩) .nil))
 (some ⟨.func, 1, 8, [.d .nilf]⟩) (.node (.node .nil
 (some ⟨.func, 1, 8, [.d .nilf]⟩) .nil)
 (some ⟨.func, 1, 8, [.d .nilf]⟩) (.node .nil
 (some ⟨.func, 1, 8, [.d .nilf]⟩) .nil))))
 (some ⟨(.int .u8), 1, 1, [.d (.int .u8 (0))]⟩) (.node (.node (.node (.node (.node .nil
 (some ⟨(.array 0 16), 0, 0, []⟩) .nil)
 (some ⟨(.slice 9), 1, 24, [.nils]⟩) .nil)
 none (.node .nil
 (some ⟨.func, 1, 8, [.d .nilf]⟩) .nil))
 (some ⟨(.slice 50), 1, 24, [.nils]⟩) (.node .nil
 (some ⟨.func, 1, 8, [.d .nilf]⟩) (.node .nil
 (some ⟨.func, 1, 8, [.d .nilf]⟩) .nil)))
 (some ⟨(.struct [(0, 9), (1, 12)]), 2, 24, [.d (.str ⟨#[]⟩), .d (.int .u64 (0))]⟩) (.node (.node (.node (.node .nil
 (some ⟨(.struct [(0, 12), (1, 12), (2, 36), (3, 137), (4, 5), (5, 5), (6, 138), (7, 139), (8, 103), (9, 140), (10, 141)]), 11, 48, [.d (.int .u64 (0)), .d (.int .u64 (0)), .d (.int .u32 (0)), .d (.int .u8 (0)), .d (.int .u8 (0)), .d (.int .u8 (0)), .d (.int .u8 (0)), .d .nilf, .d .nilp, .d (.int .i32 (0)), .d (.int .i32 (0))]⟩) .nil)
 (some ⟨(.int .u64), 1, 8, [.d (.int .u64 (0))]⟩) .nil)
 (some ⟨.func, 1, 8, [.d .nilf]⟩) (.node .nil
 (some ⟨.func, 1, 8, [.d .nilf]⟩) .nil))
 none (.node (.node .nil
 (some ⟨.func, 1, 8, [.d .nilf]⟩) .nil)
 (some ⟨.func, 1, 8, [.d .nilf]⟩) (.node .nil
 (some ⟨.func, 1, 8, [.d .nilf]⟩) .nil)))))))
instance glb : Glb := ⟨fun b k v => False ∨ (b = 0 ∧ ((k < 20 ∧ v = some (.int .u64 ((10 ^ k : Nat) : Int))) ∨ (k = 20 ∧ v = none))), 82, 5⟩
def T [Ops] : Unit → Tab := fun _ => tbl.tab
noncomputable def P : Unit → Program := fun _ => Go.Proofs.Tryd.prog
theorem tabOk [Ops] : TabOk (P ()) (T ()) := Tables.tabOk (by kernel_rfl) rfl
end Go.VM

namespace Go.VM
open Go.Proofs Go
set_option maxRecDepth 100000
set_option linter.unusedVariables false
set_option linter.unusedSimpArgs false
/-- a level, as a value -/
abbrev lv (c : Int) (n : Nat) (V P : Nat → Int) : A := .agg [.d (.int .i64 c), .d (.sl n 2 (lvF V P))]
def FindP (V : Nat → Int) (n : Nat) (v r : Int) : Prop := (r = -1 ∧ ∀ i, i < n → V i ≠ v) ∨ ∃ k : Nat, k < n ∧ r = k ∧ V k = v

theorem find1 (a b : Int) (v : Int) : VCalls (P ()) 52 [.agg [.d (.int .i64 a), .d (.int .i64 b)], .ptr 0 0] [.box [.d (.int .i64 v)]] (fun r H => (∃ G, H = .box [.d (.int .i64 v)] :: G) ∧ ∃ x : Bool, x = decide (a = v) ∧ r = .d (.bool x)) := by
  refine VCalls_of_Wo (Tf := @T) @tabOk [] 400 Tryd.func52 rfl (fun {_} => by kernel_rfl) (Nat.le_of_ble_eq_true rfl) @fun ⟨_, _, _, _, _, _, _, _, _, _, _, _, _, _, _, _, _, _, _, _, _, _, _, _, _, _, _, _, _, _, _, _, _, _, _, _, _, _, wp, wf⟩ nH R hnH hR => ?_
  subst hnH
  cbv
  try simp only [wp, (show ∀ n : Nat, _ = n from fun n => wf.2.2.2.2.2.2.2.2.2.2.2.2.2.1 (Int.ofNat n)), getL, takeL, dropL, TK.isAgg, reduceIte]
  replace hR := fun x G h => hR (.d (.bool x)) _ ⟨⟨G, rfl⟩, x, h, rfl⟩
  repeat' first | with_reducible refine And.intro ?_ ?_ | intro c9
  · exact hR _ _ (by simp [c9])
  · exact hR _ _ (by simp [c9])

theorem find2 (n : Nat) (V P0 : Nat → Int) (v : Int) (hn : n < 2 ^ 62) : VCalls (P ()) 51 [.d (.sl n 2 (lvF V P0)), .clo 52 [] [.ptr 0 0]] [.box [.d (.int .i64 v)]] (fun r H => (∃ G, H = .box [.d (.int .i64 v)] :: G) ∧ ∃ x : Int, FindP V n v x ∧ r = .d (.int .i64 x)) := by
  refine VCalls_of_Wo (Tf := @T) @tabOk [] 400 Tryd.func51 rfl (fun {_} => by kernel_rfl) (Nat.le_of_ble_eq_true rfl) @fun ⟨_, _, _, _, _, _, _, _, _, _, _, _, _, _, _, _, _, _, _, _, _, _, _, _, _, _, _, _, _, _, _, _, _, _, _, _, _, _, wp, wf⟩ nH R hnH hR => ?_
  subst hnH
  cbv
  try simp only [wp, (show ∀ n : Nat, _ = n from fun n => wf.2.2.2.2.2.2.2.2.2.2.2.2.2.1 (Int.ofNat n)), getL, takeL, dropL, TK.isAgg, reduceIte]
  replace hR := fun x G h => hR (.d (.int .i64 x)) _ ⟨⟨G, rfl⟩, x, h, rfl⟩
  refine loopO (Tf := @T) @tabOk [] 400 (fun i : Nat => ⟨[.d (.sl n 2 (lvF V P0)), .clo 52 [] [.ptr 0 0], .undef, .undef, .undef, .undef, .d (.sl n 2 (lvF V P0)), .d (.int .i64 n), .d (.int .i64 i), .undef, .undef, .undef, .undef, .undef, .undef, .undef, .undef, .undef, .undef], [.box [.d (.int .i64 v)]]⟩) (fun i => n - i) (fun i => i ≤ n ∧ ∀ k, k < i → V k ≠ v) 0 ⟨Nat.zero_le _, fun k hk => absurd hk (Nat.not_lt_zero _)⟩ (fun {_} => by kernel_rfl) ?_ (fun i => rfl) @fun ⟨_, _, _, _, _, _, _, _, _, _, _, _, _, _, _, _, _, _, _, _, _, _, _, _, _, _, _, _, _, _, _, _, _, _, _, _, _, _, wpa, wfa⟩ i Bk hi hBk => ?_
  · (cbv; try simp only [wf, exD, exL, exT, exB, exA, leLs, leL_d, leL_undef, leL_nils, leA_nils, deq_refl, deq_int, deq_bool, deq_str, and_true, true_and, AObj.iter.injEq, nc, nc']; try simp (disch := omega) only [w64, w32, wu8])
    rfl
  (cbv; try simp only [wp, (show ∀ n : Nat, _ = n from fun n => wf.2.2.2.2.2.2.2.2.2.2.2.2.2.1 (Int.ofNat n)), (show _ = (0 : Nat) from wf.2.2.2.2.2.2.2.2.2.2.2.2.2.1 0), wpa, (show ∀ n : Nat, _ = n from fun n => wfa.2.2.2.2.2.2.2.2.2.2.2.2.2.1 (Int.ofNat n)), (show _ = (0 : Nat) from wfa.2.2.2.2.2.2.2.2.2.2.2.2.2.1 0), getL, takeL, dropL, TK.isAgg, reduceIte])
  obtain ⟨i1, i2⟩ := hi
  refine ⟨fun e => ?_, fun e => ?_⟩
  · have e : i < n := (by (try simp only [wf, wfa, nc, nc', Int.toNat_natCast, bsz, ByteArray.size_append, List.length_cons, List.length_nil] at *); (try simp (disch := omega) only [w64, w32, wu8] at *); first | done | omega)
    (refine Later.mk ?_; cbv; try simp only [wp, (show ∀ n : Nat, _ = n from fun n => wf.2.2.2.2.2.2.2.2.2.2.2.2.2.1 (Int.ofNat n)), (show _ = (0 : Nat) from wf.2.2.2.2.2.2.2.2.2.2.2.2.2.1 0), wpa, (show ∀ n : Nat, _ = n from fun n => wfa.2.2.2.2.2.2.2.2.2.2.2.2.2.1 (Int.ofNat n)), (show _ = (0 : Nat) from wfa.2.2.2.2.2.2.2.2.2.2.2.2.2.1 0), getL, takeL, dropL, TK.isAgg, reduceIte])
    repeat' first | with_reducible refine And.intro ?_ ?_ | intro c9
    all_goals first | exact (by (try simp only [wf, wfa, nc, nc', Int.toNat_natCast, bsz, ByteArray.size_append, List.length_cons, List.length_nil] at *); (try simp (disch := omega) only [w64, w32, wu8] at *); first | done | omega) | trivial | skip
    refine CallW.within (find1 (V i) (P0 i) v) [0] (by ((try simp only [wf, wfa, nc, nc', Int.toNat_natCast, bsz, ByteArray.size_append, List.length_cons, List.length_nil] at *); (try simp (disch := omega) only [w64, w32, wu8] at *)); rfl) ⟨rfl, trivial⟩ rfl ?_
    rintro _ _ ⟨⟨G, rfl⟩, x, hx, rfl⟩
    refine ⟨[.box [.d (.int .i64 v)]], G, rfl, Nat.le_refl _, ⟨trivial, trivial⟩, rfl, ?_⟩
    cases x <;> (cbv; try simp only [wp, (show ∀ n : Nat, _ = n from fun n => wf.2.2.2.2.2.2.2.2.2.2.2.2.2.1 (Int.ofNat n)), (show _ = (0 : Nat) from wf.2.2.2.2.2.2.2.2.2.2.2.2.2.1 0), wpa, (show ∀ n : Nat, _ = n from fun n => wfa.2.2.2.2.2.2.2.2.2.2.2.2.2.1 (Int.ofNat n)), (show _ = (0 : Nat) from wfa.2.2.2.2.2.2.2.2.2.2.2.2.2.1 0), getL, takeL, dropL, TK.isAgg, reduceIte]) <;> (refine Later.mk ?_; cbv; try simp only [wp, (show ∀ n : Nat, _ = n from fun n => wf.2.2.2.2.2.2.2.2.2.2.2.2.2.1 (Int.ofNat n)), (show _ = (0 : Nat) from wf.2.2.2.2.2.2.2.2.2.2.2.2.2.1 0), wpa, (show ∀ n : Nat, _ = n from fun n => wfa.2.2.2.2.2.2.2.2.2.2.2.2.2.1 (Int.ofNat n)), (show _ = (0 : Nat) from wfa.2.2.2.2.2.2.2.2.2.2.2.2.2.1 0), getL, takeL, dropL, TK.isAgg, reduceIte])
    · refine hBk (i + 1) _ (by omega) ⟨by omega, fun k hk => ?_⟩ ?_
      · by_cases e2 : k = i
        · subst e2; simpa using hx
        · exact i2 k (by omega)
      · (cbv; try simp only [wf, wfa, exD, exL, exT, exB, exA, leLs, leL_d, leL_undef, leL_nils, leA_nils, deq_refl, deq_int, deq_bool, deq_str, and_true, true_and, AObj.iter.injEq, nc, nc']; try simp (disch := omega) only [w64, w32, wu8])
        omega
    · exact hR _ _ (.inr ⟨i, e, rfl, by simpa using hx⟩)
  · have e : i = n := (by (try simp only [wf, wfa, nc, nc', Int.toNat_natCast, bsz, ByteArray.size_append, List.length_cons, List.length_nil] at *); (try simp (disch := omega) only [w64, w32, wu8] at *); first | done | omega)
    subst e
    (refine Later.mk ?_; cbv; try simp only [wp, (show ∀ n : Nat, _ = n from fun n => wf.2.2.2.2.2.2.2.2.2.2.2.2.2.1 (Int.ofNat n)), (show _ = (0 : Nat) from wf.2.2.2.2.2.2.2.2.2.2.2.2.2.1 0), wpa, (show ∀ n : Nat, _ = n from fun n => wfa.2.2.2.2.2.2.2.2.2.2.2.2.2.1 (Int.ofNat n)), (show _ = (0 : Nat) from wfa.2.2.2.2.2.2.2.2.2.2.2.2.2.1 0), getL, takeL, dropL, TK.isAgg, reduceIte])
    exact hR _ _ (.inl ⟨rfl, i2⟩)

theorem find (n : Nat) (V P0 : Nat → Int) (v : Int) (hn : n < 2 ^ 62) : VFun (P ()) 35 [.d (.sl n 2 (lvF V P0)), .d (.int .i64 v)] (fun r => ∃ x, FindP V n v x ∧ r = .d (.int .i64 x)) := by
  refine vfunO (Tf := @T) @tabOk [] 400 Tryd.func35 rfl (fun {_} => by kernel_rfl) rfl (Nat.le_of_ble_eq_true rfl) @fun ⟨_, _, _, _, _, _, _, _, _, _, _, _, _, _, _, _, _, _, _, _, _, _, _, _, _, _, _, _, _, _, _, _, _, _, _, _, _, _, wp, wf⟩ R hR => ?_
  cbv
  try simp only [wp, (show ∀ n : Nat, _ = n from fun n => wf.2.2.2.2.2.2.2.2.2.2.2.2.2.1 (Int.ofNat n)), getL, takeL, dropL, TK.isAgg, reduceIte]
  refine CallW.of (find2 n V P0 v hn) ?_
  rintro _ _ ⟨⟨G, rfl⟩, x, hx, rfl⟩
  (cbv; try simp only [wp, (show ∀ n : Nat, _ = n from fun n => wf.2.2.2.2.2.2.2.2.2.2.2.2.2.1 (Int.ofNat n)), (show _ = (0 : Nat) from wf.2.2.2.2.2.2.2.2.2.2.2.2.2.1 0), getL, takeL, dropL, TK.isAgg, reduceIte])
  exact hR _ _ (.d (.int .i64 x)) (.d _) ⟨x, hx, rfl⟩

theorem most (n : Nat) (V P0 : Nat → Int) (hn : n < 2 ^ 62) : VFun (P ()) 36 [.d (.sl n 2 (lvF V P0))] (fun r => ∃ x, x = mostF P0 n ∧ r = .d (.int .i64 x)) := by
  refine vfunO (Tf := @T) @tabOk [] 400 Tryd.func36 rfl (fun {_} => by kernel_rfl) rfl (Nat.le_of_ble_eq_true rfl) @fun ⟨_, _, _, _, _, _, _, _, _, _, _, _, _, _, _, _, _, _, _, _, _, _, _, _, _, _, _, _, _, _, _, _, _, _, _, _, _, _, wp, wf⟩ R hR => ?_
  cbv
  try simp only [wp, (show ∀ n : Nat, _ = n from fun n => wf.2.2.2.2.2.2.2.2.2.2.2.2.2.1 (Int.ofNat n)), getL, takeL, dropL, TK.isAgg, reduceIte]
  replace hR := fun x H h => hR _ H _ (.d (.int .i64 x)) ⟨x, h, rfl⟩
  obtain ⟨mF, hmF⟩ : ∃ f_, f_ = mostF P0 := ⟨_, rfl⟩
  have m0 : mF 0 = -1 := by rw [hmF]; rfl
  have m1 : ∀ i, mF (i + 1) = max (mF i) (P0 i) := fun i => by rw [hmF]; rfl
  rw [← hmF] at hR
  refine loopO (Tf := @T) @tabOk [] 400 (fun i : Nat => ⟨[.d (.sl n 2 (lvF V P0)), .undef, .undef, .d (.int .i64 (mF i)), .undef, .undef, .d (.sl n 2 (lvF V P0)), .d (.int .i64 n), .d (.int .i64 i), .undef, .undef, .undef, .undef, .undef, .undef, .undef, .undef, .undef], []⟩) (fun i => n - i) (fun i => i ≤ n) 0 (Nat.zero_le _) (fun {_} => by kernel_rfl) ?_ (fun i => rfl) @fun ⟨_, _, _, _, _, _, _, _, _, _, _, _, _, _, _, _, _, _, _, _, _, _, _, _, _, _, _, _, _, _, _, _, _, _, _, _, _, _, wpa, wfa⟩ i Bk hi hBk => ?_
  · (cbv; try simp only [wf, exD, exL, exT, exB, exA, leLs, leL_d, leL_undef, leL_nils, leA_nils, deq_refl, deq_int, deq_bool, deq_str, and_true, true_and, AObj.iter.injEq, nc, nc']; try simp (disch := omega) only [w64, w32, wu8])
    exact ⟨m0.symm, rfl⟩
  (cbv; try simp only [wp, (show ∀ n : Nat, _ = n from fun n => wf.2.2.2.2.2.2.2.2.2.2.2.2.2.1 (Int.ofNat n)), (show _ = (0 : Nat) from wf.2.2.2.2.2.2.2.2.2.2.2.2.2.1 0), wpa, (show ∀ n : Nat, _ = n from fun n => wfa.2.2.2.2.2.2.2.2.2.2.2.2.2.1 (Int.ofNat n)), (show _ = (0 : Nat) from wfa.2.2.2.2.2.2.2.2.2.2.2.2.2.1 0), getL, takeL, dropL, TK.isAgg, reduceIte])
  refine ⟨fun e => ?_, fun e => ?_⟩
  · have e : i < n := (by (try simp only [wf, wfa, nc, nc', Int.toNat_natCast, bsz, ByteArray.size_append, List.length_cons, List.length_nil] at *); (try simp (disch := omega) only [w64, w32, wu8] at *); first | done | omega)
    (refine Later.mk ?_; cbv; try simp only [wp, (show ∀ n : Nat, _ = n from fun n => wf.2.2.2.2.2.2.2.2.2.2.2.2.2.1 (Int.ofNat n)), (show _ = (0 : Nat) from wf.2.2.2.2.2.2.2.2.2.2.2.2.2.1 0), wpa, (show ∀ n : Nat, _ = n from fun n => wfa.2.2.2.2.2.2.2.2.2.2.2.2.2.1 (Int.ofNat n)), (show _ = (0 : Nat) from wfa.2.2.2.2.2.2.2.2.2.2.2.2.2.1 0), getL, takeL, dropL, TK.isAgg, reduceIte])
    repeat' first | with_reducible refine And.intro ?_ ?_ | intro c9
    all_goals first | exact (by (try simp only [wf, wfa, nc, nc', Int.toNat_natCast, bsz, ByteArray.size_append, List.length_cons, List.length_nil] at *); (try simp (disch := omega) only [w64, w32, wu8] at *); first | done | omega) | trivial | skip
    all_goals
      refine hBk (i + 1) _ (by omega) (by omega) ?_
      (cbv; try simp only [wf, wfa, exD, exL, exT, exB, exA, leLs, leL_d, leL_undef, leL_nils, leA_nils, deq_refl, deq_int, deq_bool, deq_str, and_true, true_and, AObj.iter.injEq, nc, nc']; try simp (disch := omega) only [w64, w32, wu8])
      ((try simp only [wf, wfa, nc, nc', Int.toNat_natCast, bsz, ByteArray.size_append, List.length_cons, List.length_nil] at *); (try simp (disch := omega) only [w64, w32, wu8] at *))
      exact ⟨by rw [m1]; split <;> omega, by omega⟩
  · have e : i = n := (by (try simp only [wf, wfa, nc, nc', Int.toNat_natCast, bsz, ByteArray.size_append, List.length_cons, List.length_nil] at *); (try simp (disch := omega) only [w64, w32, wu8] at *); first | done | omega)
    subst e
    (refine Later.mk ?_; cbv; try simp only [wp, (show ∀ n : Nat, _ = n from fun n => wf.2.2.2.2.2.2.2.2.2.2.2.2.2.1 (Int.ofNat n)), (show _ = (0 : Nat) from wf.2.2.2.2.2.2.2.2.2.2.2.2.2.1 0), wpa, (show ∀ n : Nat, _ = n from fun n => wfa.2.2.2.2.2.2.2.2.2.2.2.2.2.1 (Int.ofNat n)), (show _ = (0 : Nat) from wfa.2.2.2.2.2.2.2.2.2.2.2.2.2.1 0), getL, takeL, dropL, TK.isAgg, reduceIte])
    exact hR _ _ rfl
theorem notValid {c : Int} {n : Nat} {V P0 : Nat → Int} {i : Nat} (hi : i < n) (h : ¬ PartP V P0 i) : false = true ↔ ValidP c n V P0 := ⟨fun h => (by cases h), fun h2 => absurd (h2.2.2.2 i hi) h⟩
theorem Valid (c : Int) (n : Nat) (V P0 : Nat → Int) (hn : n < 2 ^ 63) : VFun (P ()) 31 [lv c n V P0] (fun r => ∃ b : Bool, (b = true ↔ ValidP c n V P0) ∧ r = .d (.bool b)) := by
  refine vfunO (Tf := @T) @tabOk [] 400 Tryd.func31 rfl (fun {_} => by kernel_rfl) rfl (Nat.le_of_ble_eq_true rfl) @fun ⟨_, _, _, _, _, _, _, _, _, _, _, _, _, _, _, _, _, _, _, _, _, _, _, _, _, _, _, _, _, _, _, _, _, _, _, _, _, _, wp, wf⟩ R hR => ?_
  cbv
  try simp only [wp, (show ∀ n : Nat, _ = n from fun n => wf.2.2.2.2.2.2.2.2.2.2.2.2.2.1 (Int.ofNat n)), getL, takeL, dropL, TK.isAgg, reduceIte]
  replace hR := fun b H h => hR _ H _ (.d (.bool b)) ⟨b, h, rfl⟩
  repeat' first | with_reducible refine And.intro ?_ ?_ | intro c9
  all_goals (refine Later.mk ?_; cbv; try simp only [wp, (show ∀ n : Nat, _ = n from fun n => wf.2.2.2.2.2.2.2.2.2.2.2.2.2.1 (Int.ofNat n)), (show _ = (0 : Nat) from wf.2.2.2.2.2.2.2.2.2.2.2.2.2.1 0), getL, takeL, dropL, TK.isAgg, reduceIte])
  all_goals try exact hR _ _ (by ((try simp only [wf, nc, nc'] at *); (try simp (disch := omega) only [w64, w32, wu8] at *)); simp [ValidP]; omega)
  have c9 : n ≤ 8 := (by (try simp only [wf, nc, nc', Int.toNat_natCast, bsz, ByteArray.size_append, List.length_cons, List.length_nil] at *); (try simp (disch := omega) only [w64, w32, wu8] at *); first | done | omega)
  refine loopO (Tf := @T) @tabOk [] 400 (fun i : Nat => ⟨[lv c n V P0, .ptr 0 0, .undef, .undef, .undef, .undef, .undef, .undef, .undef, .undef, .undef, .undef, .undef, .undef, .undef, .undef, .undef, .undef, .undef, .undef, .d (.sl n 2 (lvF V P0)), .d (.int .i64 n), .d (.int .i64 i), .undef, .undef, .undef, .undef, .undef, .undef, .undef, .undef, .undef, .undef, .undef, .undef, .undef, .undef, .undef, .undef, .undef, .undef, .undef, .undef, .undef, .undef, .undef, .undef, .undef, .undef, .undef, .undef, .undef, .undef, .undef, .undef, .undef], [.box [.d (.int .i64 c), .d (.sl n 2 (lvF V P0))]]⟩) (fun i => n - i) (fun i => i ≤ n ∧ ∀ k, k < i → PartP V P0 k) 0 ⟨Nat.zero_le _, fun k hk => absurd hk (Nat.not_lt_zero _)⟩ (fun {_} => by kernel_rfl) ?_ (fun i => rfl) @fun ⟨_, _, _, _, _, _, _, _, _, _, _, _, _, _, _, _, _, _, _, _, _, _, _, _, _, _, _, _, _, _, _, _, _, _, _, _, _, _, wpa, wfa⟩ i Bk hi hBk => ?_
  · (cbv; try simp only [wf, exD, exL, exT, exB, exA, leLs, leL_d, leL_undef, leL_nils, leA_nils, deq_refl, deq_int, deq_bool, deq_str, and_true, true_and, AObj.iter.injEq, nc, nc']; try simp (disch := omega) only [w64, w32, wu8])
    rfl
  (cbv; try simp only [wp, (show ∀ n : Nat, _ = n from fun n => wf.2.2.2.2.2.2.2.2.2.2.2.2.2.1 (Int.ofNat n)), (show _ = (0 : Nat) from wf.2.2.2.2.2.2.2.2.2.2.2.2.2.1 0), wpa, (show ∀ n : Nat, _ = n from fun n => wfa.2.2.2.2.2.2.2.2.2.2.2.2.2.1 (Int.ofNat n)), (show _ = (0 : Nat) from wfa.2.2.2.2.2.2.2.2.2.2.2.2.2.1 0), getL, takeL, dropL, TK.isAgg, reduceIte])
  obtain ⟨i1, i2⟩ := hi
  refine ⟨fun e => ?_, fun e => ?_⟩
  · have e : i < n := (by (try simp only [wf, wfa, nc, nc', Int.toNat_natCast, bsz, ByteArray.size_append, List.length_cons, List.length_nil] at *); (try simp (disch := omega) only [w64, w32, wu8] at *); first | done | omega)
    (refine Later.mk ?_; cbv; try simp only [wp, (show ∀ n : Nat, _ = n from fun n => wf.2.2.2.2.2.2.2.2.2.2.2.2.2.1 (Int.ofNat n)), (show _ = (0 : Nat) from wf.2.2.2.2.2.2.2.2.2.2.2.2.2.1 0), wpa, (show ∀ n : Nat, _ = n from fun n => wfa.2.2.2.2.2.2.2.2.2.2.2.2.2.1 (Int.ofNat n)), (show _ = (0 : Nat) from wfa.2.2.2.2.2.2.2.2.2.2.2.2.2.1 0), getL, takeL, dropL, TK.isAgg, reduceIte])
    repeat' first | with_reducible refine And.intro ?_ ?_ | intro c9
    all_goals first
      | exact (by (try simp only [wf, wfa, nc, nc', Int.toNat_natCast, bsz, ByteArray.size_append, List.length_cons, List.length_nil] at *); (try simp (disch := omega) only [w64, w32, wu8] at *); first | done | omega)
      | trivial
      | ((refine Later.mk ?_; cbv; try simp only [wp, (show ∀ n : Nat, _ = n from fun n => wf.2.2.2.2.2.2.2.2.2.2.2.2.2.1 (Int.ofNat n)), (show _ = (0 : Nat) from wf.2.2.2.2.2.2.2.2.2.2.2.2.2.1 0), wpa, (show ∀ n : Nat, _ = n from fun n => wfa.2.2.2.2.2.2.2.2.2.2.2.2.2.1 (Int.ofNat n)), (show _ = (0 : Nat) from wfa.2.2.2.2.2.2.2.2.2.2.2.2.2.1 0), getL, takeL, dropL, TK.isAgg, reduceIte])
         exact hR false _ (notValid e (fun h => by obtain ⟨p1, p2, p3, p4, p5⟩ := h; exact (by (try simp only [wf, wfa, nc, nc', Int.toNat_natCast, bsz, ByteArray.size_append, List.length_cons, List.length_nil] at *); (try simp (disch := omega) only [w64, w32, wu8] at *); first | done | omega))))
      | skip
    all_goals
      refine (find _ V P0 _ (by ((try simp only [wf, wfa, nc, nc', Int.toNat_natCast, bsz, ByteArray.size_append, List.length_cons, List.length_nil] at *); (try simp (disch := omega) only [w64, w32, wu8] at *)); omega)).call ?_
      rintro _ ⟨x, hx, rfl⟩
      (cbv; try simp only [wp, (show ∀ n : Nat, _ = n from fun n => wf.2.2.2.2.2.2.2.2.2.2.2.2.2.1 (Int.ofNat n)), (show _ = (0 : Nat) from wf.2.2.2.2.2.2.2.2.2.2.2.2.2.1 0), wpa, (show ∀ n : Nat, _ = n from fun n => wfa.2.2.2.2.2.2.2.2.2.2.2.2.2.1 (Int.ofNat n)), (show _ = (0 : Nat) from wfa.2.2.2.2.2.2.2.2.2.2.2.2.2.1 0), getL, takeL, dropL, TK.isAgg, reduceIte])
      repeat' first | with_reducible refine And.intro ?_ ?_ | intro c9
      all_goals first
        | exact (by (try simp only [wf, wfa, nc, nc', Int.toNat_natCast, bsz, ByteArray.size_append, List.length_cons, List.length_nil] at *); (try simp (disch := omega) only [w64, w32, wu8] at *); first | done | omega)
        | trivial
        | skip
      all_goals first
        | ((refine Later.mk ?_; cbv; try simp only [wp, (show ∀ n : Nat, _ = n from fun n => wf.2.2.2.2.2.2.2.2.2.2.2.2.2.1 (Int.ofNat n)), (show _ = (0 : Nat) from wf.2.2.2.2.2.2.2.2.2.2.2.2.2.1 0), wpa, (show ∀ n : Nat, _ = n from fun n => wfa.2.2.2.2.2.2.2.2.2.2.2.2.2.1 (Int.ofNat n)), (show _ = (0 : Nat) from wfa.2.2.2.2.2.2.2.2.2.2.2.2.2.1 0), getL, takeL, dropL, TK.isAgg, reduceIte])
           refine hR false _ (notValid e (fun h => ?_))
           obtain ⟨p1, p2, p3, p4, p5⟩ := h
           rcases hx with ⟨rfl, hx⟩ | ⟨k, k1, rfl, k2⟩
           · exact absurd (show (0 : Int) ≤ -1 by assumption) (by omega)
           · ((try simp only [wf, wfa, nc, nc', Int.toNat_natCast, bsz, ByteArray.size_append, List.length_cons, List.length_nil] at *); (try simp (disch := omega) only [w64, w32, wu8] at *))
             exact p5 k (by omega) k2)
        | ((refine Later.mk ?_; cbv; try simp only [wp, (show ∀ n : Nat, _ = n from fun n => wf.2.2.2.2.2.2.2.2.2.2.2.2.2.1 (Int.ofNat n)), (show _ = (0 : Nat) from wf.2.2.2.2.2.2.2.2.2.2.2.2.2.1 0), wpa, (show ∀ n : Nat, _ = n from fun n => wfa.2.2.2.2.2.2.2.2.2.2.2.2.2.1 (Int.ofNat n)), (show _ = (0 : Nat) from wfa.2.2.2.2.2.2.2.2.2.2.2.2.2.1 0), getL, takeL, dropL, TK.isAgg, reduceIte])
           refine hBk (i + 1) _ (by omega) ⟨by omega, fun k hk => ?_⟩ ?_
           · by_cases e2 : k = i
             · subst e2
               rcases hx with ⟨rfl, hx⟩ | ⟨j, k1, rfl, k2⟩
               · ((try simp only [wf, wfa, nc, nc', Int.toNat_natCast, bsz, ByteArray.size_append, List.length_cons, List.length_nil] at *); (try simp (disch := omega) only [w64, w32, wu8] at *))
                 exact ⟨by omega, by omega, by omega, by omega, fun j hj => hx j (by omega)⟩
               · omega
             · exact i2 k (by omega)
           · (cbv; try simp only [wf, wfa, exD, exL, exT, exB, exA, leLs, leL_d, leL_undef, leL_nils, leA_nils, deq_refl, deq_int, deq_bool, deq_str, and_true, true_and, AObj.iter.injEq, nc, nc']; try simp (disch := omega) only [w64, w32, wu8])
             omega)
        | skip
      all_goals trace_state
  · have e : i = n := (by (try simp only [wf, wfa, nc, nc', Int.toNat_natCast, bsz, ByteArray.size_append, List.length_cons, List.length_nil] at *); (try simp (disch := omega) only [w64, w32, wu8] at *); first | done | omega)
    (refine Later.mk ?_; cbv; try simp only [wp, (show ∀ n : Nat, _ = n from fun n => wf.2.2.2.2.2.2.2.2.2.2.2.2.2.1 (Int.ofNat n)), (show _ = (0 : Nat) from wf.2.2.2.2.2.2.2.2.2.2.2.2.2.1 0), wpa, (show ∀ n : Nat, _ = n from fun n => wfa.2.2.2.2.2.2.2.2.2.2.2.2.2.1 (Int.ofNat n)), (show _ = (0 : Nat) from wfa.2.2.2.2.2.2.2.2.2.2.2.2.2.1 0), getL, takeL, dropL, TK.isAgg, reduceIte])
    exact hR _ _ (by ((try simp only [wf, wfa, nc, nc'] at *); (try simp (disch := omega) only [w64, w32, wu8] at *)); simp [ValidP]; subst e; exact ⟨by omega, by omega, by omega, i2⟩)
end Go.VM

namespace Go.VM
open Go.Proofs Go
set_option maxRecDepth 100000
set_option linter.unusedVariables false
set_option linter.unusedSimpArgs false
theorem RValid (c : Int) (n : Nat) (V P0 : Nat → Int) (hn : n < 2 ^ 63) : VFun (P ()) 19 [lv c n V P0] (fun r => ∃ b : Bool, (b = true ↔ ValidP c n V P0) ∧ r = .d (.bool b)) := by
  refine vfunO (Tf := @T) @tabOk [(12, upF 0 9)] 400 Tryd.func19 rfl (fun {_} => by kernel_rfl) rfl (Nat.le_of_ble_eq_true rfl) @fun ⟨_, _, _, _, _, _, _, _, _, _, _, _, _, _, _, _, _, _, _, _, _, _, _, _, _, _, _, _, _, _, _, _, _, _, _, _, _, _, wp, wf⟩ R hR => ?_
  cbv
  try simp only [wp, (show ∀ n : Nat, _ = n from fun n => wf.2.2.2.2.2.2.2.2.2.2.2.2.2.1 (Int.ofNat n)), getL, takeL, dropL, TK.isAgg, reduceIte]
  replace hR := fun b H h => hR _ H _ (.d (.bool b)) ⟨b, h, rfl⟩
  repeat' first | with_reducible refine And.intro ?_ ?_ | intro c9
  all_goals (refine Later.mk ?_; cbv; try simp only [wp, (show ∀ n : Nat, _ = n from fun n => wf.2.2.2.2.2.2.2.2.2.2.2.2.2.1 (Int.ofNat n)), (show _ = (0 : Nat) from wf.2.2.2.2.2.2.2.2.2.2.2.2.2.1 0), getL, takeL, dropL, TK.isAgg, reduceIte])
  all_goals try exact hR _ _ (by ((try simp only [wf, nc, nc'] at *); (try simp (disch := omega) only [w64, w32, wu8] at *)); simp [ValidP]; omega)
  have c9 : n ≤ 8 := (by (try simp only [wf, nc, nc', Int.toNat_natCast, bsz, ByteArray.size_append, List.length_cons, List.length_nil] at *); (try simp (disch := omega) only [w64, w32, wu8] at *); first | done | omega)
  refine loopO (Tf := @T) @tabOk [(12, upF 0 9)] 400 (fun i : Nat => ⟨[lv c n V P0, .ptr 0 0, .undef, .d (.int .i64 i), .undef, .undef, .undef, .undef, .undef, .undef, .undef, .undef, .undef, .undef, .undef, .undef, .undef, .undef, .undef, .undef, .undef, .undef, .undef, .undef, .undef, .undef, .undef, .undef, .undef, .undef, .undef, .undef, .undef, .undef, .undef, .undef, .undef, .undef, .undef, .undef, .undef, .undef, .undef, .undef, .undef, .undef, .undef, .undef, .undef, .undef, .undef, .undef, .undef, .undef, .undef, .undef, .undef, .undef, .undef, .undef, .undef, .undef, .undef, .undef], [.box [.d (.int .i64 c), .d (.sl n 2 (lvF V P0))]]⟩) (fun i => n - i) (fun i => i ≤ n ∧ ∀ k, k < i → PartP V P0 k) 0 ⟨Nat.zero_le _, fun k hk => absurd hk (Nat.not_lt_zero _)⟩ (fun {_} => by kernel_rfl) ?_ (fun i => rfl) @fun ⟨_, _, _, _, _, _, _, _, _, _, _, _, _, _, _, _, _, _, _, _, _, _, _, _, _, _, _, _, _, _, _, _, _, _, _, _, _, _, wpa, wfa⟩ i Bk hi hBk => ?_
  · (cbv; try simp only [wf, exD, exL, exT, exB, exA, leLs, leL_d, leL_undef, leL_nils, leA_nils, deq_refl, deq_int, deq_bool, deq_str, and_true, true_and, AObj.iter.injEq, nc, nc']; try simp (disch := omega) only [w64, w32, wu8])
    rfl
  (cbv; try simp only [wp, (show ∀ n : Nat, _ = n from fun n => wf.2.2.2.2.2.2.2.2.2.2.2.2.2.1 (Int.ofNat n)), (show _ = (0 : Nat) from wf.2.2.2.2.2.2.2.2.2.2.2.2.2.1 0), wpa, (show ∀ n : Nat, _ = n from fun n => wfa.2.2.2.2.2.2.2.2.2.2.2.2.2.1 (Int.ofNat n)), (show _ = (0 : Nat) from wfa.2.2.2.2.2.2.2.2.2.2.2.2.2.1 0), getL, takeL, dropL, TK.isAgg, reduceIte])
  obtain ⟨i1, i2⟩ := hi
  refine ⟨fun e => ?_, fun e => ?_⟩
  · have e : i < n := (by (try simp only [wf, wfa, nc, nc', Int.toNat_natCast, bsz, ByteArray.size_append, List.length_cons, List.length_nil] at *); (try simp (disch := omega) only [w64, w32, wu8] at *); first | done | omega)
    (refine Later.mk ?_; cbv; try simp only [wp, (show ∀ n : Nat, _ = n from fun n => wf.2.2.2.2.2.2.2.2.2.2.2.2.2.1 (Int.ofNat n)), (show _ = (0 : Nat) from wf.2.2.2.2.2.2.2.2.2.2.2.2.2.1 0), wpa, (show ∀ n : Nat, _ = n from fun n => wfa.2.2.2.2.2.2.2.2.2.2.2.2.2.1 (Int.ofNat n)), (show _ = (0 : Nat) from wfa.2.2.2.2.2.2.2.2.2.2.2.2.2.1 0), getL, takeL, dropL, TK.isAgg, reduceIte])
    repeat' first | with_reducible refine And.intro ?_ ?_ | intro c9
    all_goals first
      | exact (by (try simp only [wf, wfa, nc, nc', Int.toNat_natCast, bsz, ByteArray.size_append, List.length_cons, List.length_nil] at *); (try simp (disch := omega) only [w64, w32, wu8] at *); first | done | omega)
      | trivial
      | ((refine Later.mk ?_; cbv; try simp only [wp, (show ∀ n : Nat, _ = n from fun n => wf.2.2.2.2.2.2.2.2.2.2.2.2.2.1 (Int.ofNat n)), (show _ = (0 : Nat) from wf.2.2.2.2.2.2.2.2.2.2.2.2.2.1 0), wpa, (show ∀ n : Nat, _ = n from fun n => wfa.2.2.2.2.2.2.2.2.2.2.2.2.2.1 (Int.ofNat n)), (show _ = (0 : Nat) from wfa.2.2.2.2.2.2.2.2.2.2.2.2.2.1 0), getL, takeL, dropL, TK.isAgg, reduceIte])
         exact hR false _ (notValid e (fun h => by obtain ⟨p1, p2, p3, p4, p5⟩ := h; exact (by (try simp only [wf, wfa, nc, nc', Int.toNat_natCast, bsz, ByteArray.size_append, List.length_cons, List.length_nil] at *); (try simp (disch := omega) only [w64, w32, wu8] at *); first | done | omega))))
      | skip
    (refine Later.mk ?_; cbv; try simp only [wp, (show ∀ n : Nat, _ = n from fun n => wf.2.2.2.2.2.2.2.2.2.2.2.2.2.1 (Int.ofNat n)), (show _ = (0 : Nat) from wf.2.2.2.2.2.2.2.2.2.2.2.2.2.1 0), wpa, (show ∀ n : Nat, _ = n from fun n => wfa.2.2.2.2.2.2.2.2.2.2.2.2.2.1 (Int.ofNat n)), (show _ = (0 : Nat) from wfa.2.2.2.2.2.2.2.2.2.2.2.2.2.1 0), getL, takeL, dropL, TK.isAgg, reduceIte])
    refine loopO (Tf := @T) @tabOk [(12, upF 0 9)] 400 (fun k : Nat => ⟨[lv c n V P0, .ptr 0 0, .undef, .d (.int .i64 i), .ptr 1 0, .d (.int .i64 k), .undef, .undef, .undef, .undef, .undef, .undef, .undef, .undef, .undef, .undef, .undef, .undef, .undef, .undef, .undef, .undef, .undef, .undef, .undef, .undef, .undef, .undef, .undef, .undef, .undef, .undef, .undef, .undef, .undef, .undef, .undef, .undef, .undef, .undef, .undef, .undef, .undef, .undef, .undef, .undef, .undef, .undef, .undef, .undef, .undef, .undef, .undef, .undef, .undef, .undef, .undef, .undef, .undef, .undef, .undef, .undef, .undef, .undef], [.box [.d (.int .i64 c), .d (.sl n 2 (lvF V P0))], .box [.d (.int .i64 (V i)), .d (.int .i64 (P0 i))]]⟩) (fun k => i - k) (fun k => k ≤ i ∧ ∀ j, j < k → V j ≠ V i) 0 ⟨Nat.zero_le _, fun k hk => absurd hk (Nat.not_lt_zero _)⟩ (fun {_} => by kernel_rfl) ?_ (fun i => rfl) @fun ⟨_, _, _, _, _, _, _, _, _, _, _, _, _, _, _, _, _, _, _, _, _, _, _, _, _, _, _, _, _, _, _, _, _, _, _, _, _, _, wpb, wfb⟩ k Bk2 hk hBk2 => ?_
    · ((cbv; try simp only [wf, wfa, exD, exL, exT, exB, exA, leLs, leL_d, leL_undef, leL_nils, leA_nils, deq_refl, deq_int, deq_bool, deq_str, and_true, true_and, AObj.iter.injEq, nc, nc']; try simp (disch := omega) only [w64, w32, wu8]); first | done | rfl | omega | (simp; done) | (simp; omega) | skip)
    (cbv; try simp only [wp, (show ∀ n : Nat, _ = n from fun n => wf.2.2.2.2.2.2.2.2.2.2.2.2.2.1 (Int.ofNat n)), (show _ = (0 : Nat) from wf.2.2.2.2.2.2.2.2.2.2.2.2.2.1 0), wpa, (show ∀ n : Nat, _ = n from fun n => wfa.2.2.2.2.2.2.2.2.2.2.2.2.2.1 (Int.ofNat n)), (show _ = (0 : Nat) from wfa.2.2.2.2.2.2.2.2.2.2.2.2.2.1 0), wpb, (show ∀ n : Nat, _ = n from fun n => wfb.2.2.2.2.2.2.2.2.2.2.2.2.2.1 (Int.ofNat n)), (show _ = (0 : Nat) from wfb.2.2.2.2.2.2.2.2.2.2.2.2.2.1 0), getL, takeL, dropL, TK.isAgg, reduceIte])
    obtain ⟨k1, k2⟩ := hk
    refine ⟨fun e2 => ?_, fun e2 => ?_⟩
    · have e2 : k < i := (by (try simp only [wf, wfa, wfb, nc, nc', Int.toNat_natCast, bsz, ByteArray.size_append, List.length_cons, List.length_nil] at *); (try simp (disch := omega) only [w64, w32, wu8] at *); first | done | omega)
      (refine Later.mk ?_; cbv; try simp only [wp, (show ∀ n : Nat, _ = n from fun n => wf.2.2.2.2.2.2.2.2.2.2.2.2.2.1 (Int.ofNat n)), (show _ = (0 : Nat) from wf.2.2.2.2.2.2.2.2.2.2.2.2.2.1 0), wpa, (show ∀ n : Nat, _ = n from fun n => wfa.2.2.2.2.2.2.2.2.2.2.2.2.2.1 (Int.ofNat n)), (show _ = (0 : Nat) from wfa.2.2.2.2.2.2.2.2.2.2.2.2.2.1 0), wpb, (show ∀ n : Nat, _ = n from fun n => wfb.2.2.2.2.2.2.2.2.2.2.2.2.2.1 (Int.ofNat n)), (show _ = (0 : Nat) from wfb.2.2.2.2.2.2.2.2.2.2.2.2.2.1 0), getL, takeL, dropL, TK.isAgg, reduceIte])
      repeat' first | with_reducible refine And.intro ?_ ?_ | intro c9
      all_goals first
        | exact (by (try simp only [wf, wfa, wfb, nc, nc', Int.toNat_natCast, bsz, ByteArray.size_append, List.length_cons, List.length_nil] at *); (try simp (disch := omega) only [w64, w32, wu8] at *); first | done | omega)
        | trivial
        | ((refine Later.mk ?_; cbv; try simp only [wp, (show ∀ n : Nat, _ = n from fun n => wf.2.2.2.2.2.2.2.2.2.2.2.2.2.1 (Int.ofNat n)), (show _ = (0 : Nat) from wf.2.2.2.2.2.2.2.2.2.2.2.2.2.1 0), wpa, (show ∀ n : Nat, _ = n from fun n => wfa.2.2.2.2.2.2.2.2.2.2.2.2.2.1 (Int.ofNat n)), (show _ = (0 : Nat) from wfa.2.2.2.2.2.2.2.2.2.2.2.2.2.1 0), wpb, (show ∀ n : Nat, _ = n from fun n => wfb.2.2.2.2.2.2.2.2.2.2.2.2.2.1 (Int.ofNat n)), (show _ = (0 : Nat) from wfb.2.2.2.2.2.2.2.2.2.2.2.2.2.1 0), getL, takeL, dropL, TK.isAgg, reduceIte])
           exact hR false _ (notValid e (fun h => h.2.2.2.2 k e2 (by (try simp only [wf, wfa, wfb, nc, nc', Int.toNat_natCast, bsz, ByteArray.size_append, List.length_cons, List.length_nil] at *); (try simp (disch := omega) only [w64, w32, wu8] at *); first | done | omega))))
        | ((refine Later.mk ?_; cbv; try simp only [wp, (show ∀ n : Nat, _ = n from fun n => wf.2.2.2.2.2.2.2.2.2.2.2.2.2.1 (Int.ofNat n)), (show _ = (0 : Nat) from wf.2.2.2.2.2.2.2.2.2.2.2.2.2.1 0), wpa, (show ∀ n : Nat, _ = n from fun n => wfa.2.2.2.2.2.2.2.2.2.2.2.2.2.1 (Int.ofNat n)), (show _ = (0 : Nat) from wfa.2.2.2.2.2.2.2.2.2.2.2.2.2.1 0), wpb, (show ∀ n : Nat, _ = n from fun n => wfb.2.2.2.2.2.2.2.2.2.2.2.2.2.1 (Int.ofNat n)), (show _ = (0 : Nat) from wfb.2.2.2.2.2.2.2.2.2.2.2.2.2.1 0), getL, takeL, dropL, TK.isAgg, reduceIte])
           refine hBk2 (k + 1) _ (by omega) ⟨by omega, fun j hj => ?_⟩ ?_
           · by_cases e3 : j = k
             · subst e3; ((try simp only [wf, wfa, wfb, nc, nc', Int.toNat_natCast, bsz, ByteArray.size_append, List.length_cons, List.length_nil] at *); (try simp (disch := omega) only [w64, w32, wu8] at *)); assumption
             · exact k2 j (by omega)
           · ((cbv; try simp only [wf, wfa, wfb, exD, exL, exT, exB, exA, leLs, leL_d, leL_undef, leL_nils, leA_nils, deq_refl, deq_int, deq_bool, deq_str, and_true, true_and, AObj.iter.injEq, nc, nc']; try simp (disch := omega) only [w64, w32, wu8]); first | done | rfl | omega | (simp; done) | (simp; omega) | skip))
    · obtain rfl : k = i := (by (try simp only [wf, wfa, wfb, nc, nc', Int.toNat_natCast, bsz, ByteArray.size_append, List.length_cons, List.length_nil] at *); (try simp (disch := omega) only [w64, w32, wu8] at *); first | done | omega)
      (refine Later.mk ?_; cbv; try simp only [wp, (show ∀ n : Nat, _ = n from fun n => wf.2.2.2.2.2.2.2.2.2.2.2.2.2.1 (Int.ofNat n)), (show _ = (0 : Nat) from wf.2.2.2.2.2.2.2.2.2.2.2.2.2.1 0), wpa, (show ∀ n : Nat, _ = n from fun n => wfa.2.2.2.2.2.2.2.2.2.2.2.2.2.1 (Int.ofNat n)), (show _ = (0 : Nat) from wfa.2.2.2.2.2.2.2.2.2.2.2.2.2.1 0), wpb, (show ∀ n : Nat, _ = n from fun n => wfb.2.2.2.2.2.2.2.2.2.2.2.2.2.1 (Int.ofNat n)), (show _ = (0 : Nat) from wfb.2.2.2.2.2.2.2.2.2.2.2.2.2.1 0), getL, takeL, dropL, TK.isAgg, reduceIte])
      refine hBk (k + 1) _ (by omega) ⟨by omega, fun j hj => ?_⟩ ?_
      · by_cases e3 : j = k
        · subst e3
          ((try simp only [wf, wfa, wfb, nc, nc', Int.toNat_natCast, bsz, ByteArray.size_append, List.length_cons, List.length_nil] at *); (try simp (disch := omega) only [w64, w32, wu8] at *))
          exact ⟨by omega, by omega, by omega, by omega, k2⟩
        · exact i2 j (by omega)
      · ((cbv; try simp only [wf, wfa, wfb, exD, exL, exT, exB, exA, leLs, leL_d, leL_undef, leL_nils, leA_nils, deq_refl, deq_int, deq_bool, deq_str, and_true, true_and, AObj.iter.injEq, nc, nc']; try simp (disch := omega) only [w64, w32, wu8]); first | done | rfl | omega | (simp; done) | (simp; omega) | skip)
  · obtain rfl : i = n := (by (try simp only [wf, wfa, nc, nc', Int.toNat_natCast, bsz, ByteArray.size_append, List.length_cons, List.length_nil] at *); (try simp (disch := omega) only [w64, w32, wu8] at *); first | done | omega)
    (refine Later.mk ?_; cbv; try simp only [wp, (show ∀ n : Nat, _ = n from fun n => wf.2.2.2.2.2.2.2.2.2.2.2.2.2.1 (Int.ofNat n)), (show _ = (0 : Nat) from wf.2.2.2.2.2.2.2.2.2.2.2.2.2.1 0), wpa, (show ∀ n : Nat, _ = n from fun n => wfa.2.2.2.2.2.2.2.2.2.2.2.2.2.1 (Int.ofNat n)), (show _ = (0 : Nat) from wfa.2.2.2.2.2.2.2.2.2.2.2.2.2.1 0), getL, takeL, dropL, TK.isAgg, reduceIte])
    exact hR _ _ (by ((try simp only [wf, wfa, nc, nc'] at *); (try simp (disch := omega) only [w64, w32, wu8] at *)); simp [ValidP]; exact ⟨by omega, by omega, by omega, i2⟩)
theorem least (c : Int) (n : Nat) (V P0 : Nat → Int) (hn : n < 2 ^ 62) : VFun (P ()) 37 [lv c n V P0] (fun r => ∃ x : Int, x = leastF P0 c n ∧ r = .d (.int .i64 x)) := by
  refine vfunO (Tf := @T) @tabOk [] 400 Tryd.func37 rfl (fun {_} => by kernel_rfl) rfl (Nat.le_of_ble_eq_true rfl) @fun ⟨_, _, _, _, _, _, _, _, _, _, _, _, _, _, _, _, _, _, _, _, _, _, _, _, _, _, _, _, _, _, _, _, _, _, _, _, _, _, wp, wf⟩ R hR => ?_
  cbv
  try simp only [wp, (show ∀ n : Nat, _ = n from fun n => wf.2.2.2.2.2.2.2.2.2.2.2.2.2.1 (Int.ofNat n)), getL, takeL, dropL, TK.isAgg, reduceIte]
  replace hR := fun x H h => hR _ H _ (.d (.int .i64 x)) ⟨x, h, rfl⟩
  obtain ⟨mF, hmF⟩ : ∃ f_, f_ = leastF P0 c := ⟨_, rfl⟩
  have m0 : mF 0 = c := by rw [hmF]; rfl
  have m1 : ∀ i, mF (i + 1) = max (mF i) (P0 i) := fun i => by rw [hmF]; rfl
  rw [← hmF] at hR
  refine loopO (Tf := @T) @tabOk [] 400 (fun i : Nat => ⟨[lv c n V P0, .ptr 0 0, .undef, .d (.int .i64 (mF i)), .d (.int .i64 i), .undef, .undef, .undef, .undef, .undef, .undef, .undef, .undef, .undef, .undef, .undef, .undef, .undef, .undef, .undef, .undef, .undef, .undef], [.box [.d (.int .i64 c), .d (.sl n 2 (lvF V P0))]]⟩) (fun i => n - i) (fun i => i ≤ n) 0 (Nat.zero_le _) (fun {_} => by kernel_rfl) ?_ (fun i => rfl) @fun ⟨_, _, _, _, _, _, _, _, _, _, _, _, _, _, _, _, _, _, _, _, _, _, _, _, _, _, _, _, _, _, _, _, _, _, _, _, _, _, wpa, wfa⟩ i Bk hi hBk => ?_
  · (cbv; try simp only [wf, exD, exL, exT, exB, exA, leLs, leL_d, leL_undef, leL_nils, leA_nils, deq_refl, deq_int, deq_bool, deq_str, and_true, true_and, AObj.iter.injEq, nc, nc']; try simp (disch := omega) only [w64, w32, wu8])
    exact ⟨m0.symm, rfl⟩
  (cbv; try simp only [wp, (show ∀ n : Nat, _ = n from fun n => wf.2.2.2.2.2.2.2.2.2.2.2.2.2.1 (Int.ofNat n)), (show _ = (0 : Nat) from wf.2.2.2.2.2.2.2.2.2.2.2.2.2.1 0), wpa, (show ∀ n : Nat, _ = n from fun n => wfa.2.2.2.2.2.2.2.2.2.2.2.2.2.1 (Int.ofNat n)), (show _ = (0 : Nat) from wfa.2.2.2.2.2.2.2.2.2.2.2.2.2.1 0), getL, takeL, dropL, TK.isAgg, reduceIte])
  refine ⟨fun e => ?_, fun e => ?_⟩
  · have e : i < n := (by (try simp only [wf, wfa, nc, nc', Int.toNat_natCast, bsz, ByteArray.size_append, List.length_cons, List.length_nil] at *); (try simp (disch := omega) only [w64, w32, wu8] at *); first | done | omega)
    (refine Later.mk ?_; cbv; try simp only [wp, (show ∀ n : Nat, _ = n from fun n => wf.2.2.2.2.2.2.2.2.2.2.2.2.2.1 (Int.ofNat n)), (show _ = (0 : Nat) from wf.2.2.2.2.2.2.2.2.2.2.2.2.2.1 0), wpa, (show ∀ n : Nat, _ = n from fun n => wfa.2.2.2.2.2.2.2.2.2.2.2.2.2.1 (Int.ofNat n)), (show _ = (0 : Nat) from wfa.2.2.2.2.2.2.2.2.2.2.2.2.2.1 0), getL, takeL, dropL, TK.isAgg, reduceIte])
    repeat' first | with_reducible refine And.intro ?_ ?_ | intro c9
    all_goals first | exact (by (try simp only [wf, wfa, nc, nc', Int.toNat_natCast, bsz, ByteArray.size_append, List.length_cons, List.length_nil] at *); (try simp (disch := omega) only [w64, w32, wu8] at *); first | done | omega) | trivial | skip
    all_goals
      refine hBk (i + 1) _ (by omega) (by omega) ?_
      (cbv; try simp only [wf, wfa, exD, exL, exT, exB, exA, leLs, leL_d, leL_undef, leL_nils, leA_nils, deq_refl, deq_int, deq_bool, deq_str, and_true, true_and, AObj.iter.injEq, nc, nc']; try simp (disch := omega) only [w64, w32, wu8])
      ((try simp only [wf, wfa, nc, nc', Int.toNat_natCast, bsz, ByteArray.size_append, List.length_cons, List.length_nil] at *); (try simp (disch := omega) only [w64, w32, wu8] at *))
      exact ⟨by rw [m1]; split <;> omega, by omega⟩
  · have e : i = n := (by (try simp only [wf, wfa, nc, nc', Int.toNat_natCast, bsz, ByteArray.size_append, List.length_cons, List.length_nil] at *); (try simp (disch := omega) only [w64, w32, wu8] at *); first | done | omega)
    subst e
    (refine Later.mk ?_; cbv; try simp only [wp, (show ∀ n : Nat, _ = n from fun n => wf.2.2.2.2.2.2.2.2.2.2.2.2.2.1 (Int.ofNat n)), (show _ = (0 : Nat) from wf.2.2.2.2.2.2.2.2.2.2.2.2.2.1 0), wpa, (show ∀ n : Nat, _ = n from fun n => wfa.2.2.2.2.2.2.2.2.2.2.2.2.2.1 (Int.ofNat n)), (show _ = (0 : Nat) from wfa.2.2.2.2.2.2.2.2.2.2.2.2.2.1 0), getL, takeL, dropL, TK.isAgg, reduceIte])
    exact hR _ _ rfl
theorem distinct {c : Int} {n : Nat} {V P0 : Nat → Int} (h : ValidP c n V P0) {j k : Nat} (hj : j < n) (hk : k < n) (e : V j = V k) : j = k := by
  rcases Nat.lt_trichotomy j k with h1 | h1 | h1
  · exact absurd e ((h.2.2.2 k hk).2.2.2.2 j h1)
  · exact h1
  · exact absurd e.symm ((h.2.2.2 j hj).2.2.2.2 k h1)
theorem Leq (c c' : Int) (n n' : Nat) (V P0 V' P' : Nat → Int) (hn : n < 2 ^ 62) (hn' : n' < 2 ^ 62) : VFun (P ()) 12 [lv c n V P0, lv c' n' V' P'] (fun r => ∃ b : Bool, (b = true ↔ ValidP c n V P0 ∧ ValidP c' n' V' P' ∧ LeqP c n V P0 c' n' V' P') ∧ r = .d (.bool b)) := by
  refine vfunO (Tf := @T) @tabOk [(7, upF 0 13)] 400 Tryd.func12 rfl (fun {_} => by kernel_rfl) rfl (Nat.le_of_ble_eq_true rfl) @fun ⟨_, _, _, _, _, _, _, _, _, _, _, _, _, _, _, _, _, _, _, _, _, _, _, _, _, _, _, _, _, _, _, _, _, _, _, _, _, _, wp, wf⟩ R hR => ?_
  cbv
  try simp only [wp, (show ∀ n : Nat, _ = n from fun n => wf.2.2.2.2.2.2.2.2.2.2.2.2.2.1 (Int.ofNat n)), getL, takeL, dropL, TK.isAgg, reduceIte]
  replace hR := fun b H h => hR _ H _ (.d (.bool b)) ⟨b, h, rfl⟩
  refine (Valid _ _ _ _ (by omega)).call ?_
  rintro _ ⟨b, hb, rfl⟩
  cases b <;> (cbv; try simp only [wp, (show ∀ n : Nat, _ = n from fun n => wf.2.2.2.2.2.2.2.2.2.2.2.2.2.1 (Int.ofNat n)), (show _ = (0 : Nat) from wf.2.2.2.2.2.2.2.2.2.2.2.2.2.1 0), getL, takeL, dropL, TK.isAgg, reduceIte])
  · (refine Later.mk ?_; cbv; try simp only [wp, (show ∀ n : Nat, _ = n from fun n => wf.2.2.2.2.2.2.2.2.2.2.2.2.2.1 (Int.ofNat n)), (show _ = (0 : Nat) from wf.2.2.2.2.2.2.2.2.2.2.2.2.2.1 0), getL, takeL, dropL, TK.isAgg, reduceIte])
    exact hR _ _ ⟨fun h => (by cases h), fun h => (by simpa using hb.2 h.1)⟩
  · refine (Valid _ _ _ _ (by omega)).call ?_
    rintro _ ⟨b', hb', rfl⟩
    cases b' <;> (cbv; try simp only [wp, (show ∀ n : Nat, _ = n from fun n => wf.2.2.2.2.2.2.2.2.2.2.2.2.2.1 (Int.ofNat n)), (show _ = (0 : Nat) from wf.2.2.2.2.2.2.2.2.2.2.2.2.2.1 0), getL, takeL, dropL, TK.isAgg, reduceIte]) <;> (refine Later.mk ?_; cbv; try simp only [wp, (show ∀ n : Nat, _ = n from fun n => wf.2.2.2.2.2.2.2.2.2.2.2.2.2.1 (Int.ofNat n)), (show _ = (0 : Nat) from wf.2.2.2.2.2.2.2.2.2.2.2.2.2.1 0), getL, takeL, dropL, TK.isAgg, reduceIte])
    · exact hR _ _ ⟨fun h => (by cases h), fun h => (by simpa using hb'.2 h.2.1)⟩
    have v := hb.1 rfl
    have v' := hb'.1 rfl
    clear hb hb'
    have key : ∀ b : Bool, (b = true ↔ LeqP c n V P0 c' n' V' P') → (b = true ↔ ValidP c n V P0 ∧ ValidP c' n' V' P' ∧ LeqP c n V P0 c' n' V' P') := fun b hb => ⟨fun h => ⟨v, v', hb.1 h⟩, fun h => hb.2 h.2.2⟩
    replace hR := fun b H h => hR b H (key b h)
    refine loopO (Tf := @T) @tabOk [(7, upF 0 13)] 400 (fun i : Nat => ⟨[lv c n V P0, lv c' n' V' P', .ptr 0 0, .ptr 1 0, .undef, .undef, .undef, .undef, .undef, .undef, .undef, .undef, .undef, .undef, .undef, .undef, .undef, .d (.sl n 2 (lvF V P0)), .d (.int .i64 n), .d (.int .i64 i), .undef, .undef, .undef, .undef, .undef, .undef, .undef, .undef, .undef, .undef, .undef, .undef, .undef, .undef, .undef, .undef, .undef, .undef, .undef, .undef, .undef, .undef, .undef, .undef, .undef, .undef, .undef, .undef, .undef, .undef, .undef], [.box [.d (.int .i64 c), .d (.sl n 2 (lvF V P0))], .box [.d (.int .i64 c'), .d (.sl n' 2 (lvF V' P'))]]⟩) (fun i => n - i) (fun i => i ≤ n ∧ ∀ k, k < i → InP V P0 n' V' P' k) 0 ⟨Nat.zero_le _, fun k hk => absurd hk (Nat.not_lt_zero _)⟩ (fun {_} => by kernel_rfl) ?_ (fun i => rfl) @fun ⟨_, _, _, _, _, _, _, _, _, _, _, _, _, _, _, _, _, _, _, _, _, _, _, _, _, _, _, _, _, _, _, _, _, _, _, _, _, _, wpa, wfa⟩ i Bk hi hBk => ?_
    · (cbv; try simp only [wf, exD, exL, exT, exB, exA, leLs, leL_d, leL_undef, leL_nils, leA_nils, deq_refl, deq_int, deq_bool, deq_str, and_true, true_and, AObj.iter.injEq, nc, nc']; try simp (disch := omega) only [w64, w32, wu8])
      rfl
    (cbv; try simp only [wp, (show ∀ n : Nat, _ = n from fun n => wf.2.2.2.2.2.2.2.2.2.2.2.2.2.1 (Int.ofNat n)), (show _ = (0 : Nat) from wf.2.2.2.2.2.2.2.2.2.2.2.2.2.1 0), wpa, (show ∀ n : Nat, _ = n from fun n => wfa.2.2.2.2.2.2.2.2.2.2.2.2.2.1 (Int.ofNat n)), (show _ = (0 : Nat) from wfa.2.2.2.2.2.2.2.2.2.2.2.2.2.1 0), getL, takeL, dropL, TK.isAgg, reduceIte])
    obtain ⟨i1, i2⟩ := hi
    refine ⟨fun e => ?_, fun e => ?_⟩
    · have e : i < n := (by (try simp only [wf, wfa, nc, nc', Int.toNat_natCast, bsz, ByteArray.size_append, List.length_cons, List.length_nil] at *); (try simp (disch := omega) only [w64, w32, wu8] at *); first | done | omega)
      (refine Later.mk ?_; cbv; try simp only [wp, (show ∀ n : Nat, _ = n from fun n => wf.2.2.2.2.2.2.2.2.2.2.2.2.2.1 (Int.ofNat n)), (show _ = (0 : Nat) from wf.2.2.2.2.2.2.2.2.2.2.2.2.2.1 0), wpa, (show ∀ n : Nat, _ = n from fun n => wfa.2.2.2.2.2.2.2.2.2.2.2.2.2.1 (Int.ofNat n)), (show _ = (0 : Nat) from wfa.2.2.2.2.2.2.2.2.2.2.2.2.2.1 0), getL, takeL, dropL, TK.isAgg, reduceIte])
      repeat' first | with_reducible refine And.intro ?_ ?_ | intro c9
      all_goals first | exact (by (try simp only [wf, wfa, nc, nc', Int.toNat_natCast, bsz, ByteArray.size_append, List.length_cons, List.length_nil] at *); (try simp (disch := omega) only [w64, w32, wu8] at *); first | done | omega) | trivial | skip
      all_goals
        refine (find _ V' P' _ hn').call ?_
        rintro _ ⟨x, hx, rfl⟩
        have hx0 : 0 ≤ x → x < n' := fun h => by rcases hx with ⟨rfl, _⟩ | ⟨k, k1, rfl, _⟩ <;> omega
        (cbv; try simp only [wp, (show ∀ n : Nat, _ = n from fun n => wf.2.2.2.2.2.2.2.2.2.2.2.2.2.1 (Int.ofNat n)), (show _ = (0 : Nat) from wf.2.2.2.2.2.2.2.2.2.2.2.2.2.1 0), wpa, (show ∀ n : Nat, _ = n from fun n => wfa.2.2.2.2.2.2.2.2.2.2.2.2.2.1 (Int.ofNat n)), (show _ = (0 : Nat) from wfa.2.2.2.2.2.2.2.2.2.2.2.2.2.1 0), getL, takeL, dropL, TK.isAgg, reduceIte])
        repeat' first | with_reducible refine And.intro ?_ ?_ | intro c9
        all_goals first
          | exact (by (try simp only [wf, wfa, nc, nc', Int.toNat_natCast, bsz, ByteArray.size_append, List.length_cons, List.length_nil] at *); (try simp (disch := omega) only [w64, w32, wu8] at *); first | done | omega)
          | trivial
          | (((try simp only [wf, wfa, nc, nc', Int.toNat_natCast, bsz, ByteArray.size_append, List.length_cons, List.length_nil] at *); (try simp (disch := omega) only [w64, w32, wu8] at *))
             exact hx0 (by assumption))
          | ((refine Later.mk ?_; cbv; try simp only [wp, (show ∀ n : Nat, _ = n from fun n => wf.2.2.2.2.2.2.2.2.2.2.2.2.2.1 (Int.ofNat n)), (show _ = (0 : Nat) from wf.2.2.2.2.2.2.2.2.2.2.2.2.2.1 0), wpa, (show ∀ n : Nat, _ = n from fun n => wfa.2.2.2.2.2.2.2.2.2.2.2.2.2.1 (Int.ofNat n)), (show _ = (0 : Nat) from wfa.2.2.2.2.2.2.2.2.2.2.2.2.2.1 0), getL, takeL, dropL, TK.isAgg, reduceIte])
             refine hR false _ ⟨fun h => (by cases h), fun h => ?_⟩
             obtain ⟨k, k1, k2, k3⟩ := h.1 i e
             rcases hx with ⟨rfl, hx⟩ | ⟨j, j1, rfl, j2⟩
             · exact absurd k2 (hx k k1)
             · ((try simp only [wf, wfa, nc, nc', Int.toNat_natCast, bsz, ByteArray.size_append, List.length_cons, List.length_nil] at *); (try simp (disch := omega) only [w64, w32, wu8] at *))
               have : j = k := distinct v' j1 k1 (by omega)
               subst this
               omega)
          | ((refine Later.mk ?_; cbv; try simp only [wp, (show ∀ n : Nat, _ = n from fun n => wf.2.2.2.2.2.2.2.2.2.2.2.2.2.1 (Int.ofNat n)), (show _ = (0 : Nat) from wf.2.2.2.2.2.2.2.2.2.2.2.2.2.1 0), wpa, (show ∀ n : Nat, _ = n from fun n => wfa.2.2.2.2.2.2.2.2.2.2.2.2.2.1 (Int.ofNat n)), (show _ = (0 : Nat) from wfa.2.2.2.2.2.2.2.2.2.2.2.2.2.1 0), getL, takeL, dropL, TK.isAgg, reduceIte])
             refine hBk (i + 1) _ (by omega) ⟨by omega, fun j hj => ?_⟩ ?_
             · by_cases e3 : j = i
               · subst e3
                 rcases hx with ⟨rfl, hx⟩ | ⟨k, k1, rfl, k2⟩
                 · omega
                 · ((try simp only [wf, wfa, nc, nc', Int.toNat_natCast, bsz, ByteArray.size_append, List.length_cons, List.length_nil] at *); (try simp (disch := omega) only [w64, w32, wu8] at *))
                   exact ⟨k, k1, by omega, by omega⟩
               · exact i2 j (by omega)
             · ((cbv; try simp only [wf, wfa, exD, exL, exT, exB, exA, leLs, leL_d, leL_undef, leL_nils, leA_nils, deq_refl, deq_int, deq_bool, deq_str, and_true, true_and, AObj.iter.injEq, nc, nc']; try simp (disch := omega) only [w64, w32, wu8]); first | done | rfl | omega | (simp; done) | (simp; omega) | skip))
          | skip
    · obtain rfl : i = n := (by (try simp only [wf, wfa, nc, nc', Int.toNat_natCast, bsz, ByteArray.size_append, List.length_cons, List.length_nil] at *); (try simp (disch := omega) only [w64, w32, wu8] at *); first | done | omega)
      (refine Later.mk ?_; cbv; try simp only [wp, (show ∀ n : Nat, _ = n from fun n => wf.2.2.2.2.2.2.2.2.2.2.2.2.2.1 (Int.ofNat n)), (show _ = (0 : Nat) from wf.2.2.2.2.2.2.2.2.2.2.2.2.2.1 0), wpa, (show ∀ n : Nat, _ = n from fun n => wfa.2.2.2.2.2.2.2.2.2.2.2.2.2.1 (Int.ofNat n)), (show _ = (0 : Nat) from wfa.2.2.2.2.2.2.2.2.2.2.2.2.2.1 0), getL, takeL, dropL, TK.isAgg, reduceIte])
      repeat' first | with_reducible refine And.intro ?_ ?_ | intro c9
      all_goals first | trivial | skip
      all_goals
        refine (most _ V' P' hn').call ?_
        rintro _ ⟨x, hx, rfl⟩
        (cbv; try simp only [wp, (show ∀ n : Nat, _ = n from fun n => wf.2.2.2.2.2.2.2.2.2.2.2.2.2.1 (Int.ofNat n)), (show _ = (0 : Nat) from wf.2.2.2.2.2.2.2.2.2.2.2.2.2.1 0), wpa, (show ∀ n : Nat, _ = n from fun n => wfa.2.2.2.2.2.2.2.2.2.2.2.2.2.1 (Int.ofNat n)), (show _ = (0 : Nat) from wfa.2.2.2.2.2.2.2.2.2.2.2.2.2.1 0), getL, takeL, dropL, TK.isAgg, reduceIte])
        repeat' first | with_reducible refine And.intro ?_ ?_ | intro c9
        all_goals first
          | exact (by (try simp only [wf, wfa, nc, nc', Int.toNat_natCast, bsz, ByteArray.size_append, List.length_cons, List.length_nil] at *); (try simp (disch := omega) only [w64, w32, wu8] at *); first | done | omega)
          | trivial
          | (refine hR _ _ ?_
             ((try simp only [wf, wfa, nc, nc', Int.toNat_natCast, bsz, ByteArray.size_append, List.length_cons, List.length_nil] at *); (try simp (disch := omega) only [w64, w32, wu8] at *))
             simp only [LeqP, ← hx, true_iff, iff_true, iff_false, false_iff]
             have hx2 := hx.symm
             split at * <;> first | exact ⟨i2, by omega⟩ | (intro h; have := h.2; omega) | (simp_all; done) | (simp_all; omega) | omega)
          | skip

theorem iffF {X : Prop} (h : ¬ X) : false = true ↔ X := ⟨fun h => (by cases h), fun h2 => absurd h2 h⟩
theorem iffT {X : Prop} (h : X) : true = true ↔ X := ⟨fun _ => h, fun _ => rfl⟩
theorem _root_.Iff.dich {b : Bool} {X : Prop} (h : b = true ↔ X) : (b = true ∧ X) ∨ (b = false ∧ ¬ X) := by
  cases b
  · exact .inr ⟨rfl, fun x => (by simpa using h.2 x)⟩
  · exact .inl ⟨rfl, h.1 rfl⟩
theorem Equal (c c' : Int) (n n' : Nat) (V P0 V' P' : Nat → Int) (hn : n < 2 ^ 62) (hn' : n' < 2 ^ 62) : VFun (P ()) 14 [lv c n V P0, lv c' n' V' P'] (fun r => ∃ b : Bool, (b = true ↔ ValidP c n V P0 ∧ ValidP c' n' V' P' ∧ LeqP c n V P0 c' n' V' P' ∧ LeqP c' n' V' P' c n V P0) ∧ r = .d (.bool b)) := by
  refine vfunO (Tf := @T) @tabOk [] 400 Tryd.func14 rfl (fun {_} => by kernel_rfl) rfl (Nat.le_of_ble_eq_true rfl) @fun ⟨_, _, _, _, _, _, _, _, _, _, _, _, _, _, _, _, _, _, _, _, _, _, _, _, _, _, _, _, _, _, _, _, _, _, _, _, _, _, wp, wf⟩ R hR => ?_
  cbv
  try simp only [wp, (show ∀ n : Nat, _ = n from fun n => wf.2.2.2.2.2.2.2.2.2.2.2.2.2.1 (Int.ofNat n)), getL, takeL, dropL, TK.isAgg, reduceIte]
  replace hR := fun b H h => hR _ H _ (.d (.bool b)) ⟨b, h, rfl⟩
  refine (Leq c c' n n' V P0 V' P' hn hn').call ?_
  rintro _ ⟨b, hb, rfl⟩
  cases b <;> (cbv; try simp only [wp, (show ∀ n : Nat, _ = n from fun n => wf.2.2.2.2.2.2.2.2.2.2.2.2.2.1 (Int.ofNat n)), (show _ = (0 : Nat) from wf.2.2.2.2.2.2.2.2.2.2.2.2.2.1 0), getL, takeL, dropL, TK.isAgg, reduceIte])
  · exact hR _ _ (iffF fun h => (by simpa using hb.2 ⟨h.1, h.2.1, h.2.2.1⟩))
  · have v := hb.1 rfl
    refine (Leq c' c n' n V' P' V P0 hn' hn).call ?_
    rintro _ ⟨b, hb, rfl⟩
    (cbv; try simp only [wp, (show ∀ n : Nat, _ = n from fun n => wf.2.2.2.2.2.2.2.2.2.2.2.2.2.1 (Int.ofNat n)), (show _ = (0 : Nat) from wf.2.2.2.2.2.2.2.2.2.2.2.2.2.1 0), getL, takeL, dropL, TK.isAgg, reduceIte])
    exact hR _ _ ⟨fun h => ⟨v.1, v.2.1, v.2.2, (hb.1 h).2.2⟩, fun h => hb.2 ⟨v.2.1, v.1, h.2.2.2⟩⟩
end Go.VM

namespace Go.VM
open Go.Proofs Go
set_option maxRecDepth 100000
set_option linter.unusedVariables false
set_option linter.unusedSimpArgs false
theorem InP_up {V P0 V' P' : Nat → Int} {k i : Nat} (h : InP V P0 k V' P' i) : InP V P0 (k + 1) V' P' i := by
  obtain ⟨j, h1, h2⟩ := h
  exact ⟨j, by omega, h2⟩
theorem InP_dn {V P0 V' P' : Nat → Int} {k i : Nat} (h : InP V P0 (k + 1) V' P' i) (hn : V' k = V i → P0 i ≤ P' k → False) : InP V P0 k V' P' i := by
  obtain ⟨j, h1, h2, h3⟩ := h
  by_cases e : j = k
  · subst e; exact (hn h2 h3).elim
  · exact ⟨j, by omega, h2, h3⟩
theorem RLeq (c c' : Int) (n n' : Nat) (V P0 V' P' : Nat → Int) (hn : n < 2 ^ 62) (hn' : n' < 2 ^ 62) : VFun (P ()) 13 [lv c n V P0, lv c' n' V' P'] (fun r => ∃ b : Bool, (b = true ↔ ValidP c n V P0 ∧ ValidP c' n' V' P' ∧ LeqP c n V P0 c' n' V' P') ∧ r = .d (.bool b)) := by
  refine vfunO (Tf := @T) @tabOk [(10, upF 0 28)] 400 Tryd.func13 rfl (fun {_} => by kernel_rfl) rfl (Nat.le_of_ble_eq_true rfl) @fun ⟨_, _, _, _, _, _, _, _, _, _, _, _, _, _, _, _, _, _, _, _, _, _, _, _, _, _, _, _, _, _, _, _, _, _, _, _, _, _, wp, wf⟩ R hR => ?_
  cbv
  try simp only [wp, (show ∀ n : Nat, _ = n from fun n => wf.2.2.2.2.2.2.2.2.2.2.2.2.2.1 (Int.ofNat n)), getL, takeL, dropL, TK.isAgg, reduceIte]
  replace hR := fun b H h => hR _ H _ (.d (.bool b)) ⟨b, h, rfl⟩
  repeat' first
    | trivial
    | with_reducible refine And.intro ?_ ?_
    | intro c9
    | (refine (RValid c n V P0 (by omega)).call ?_
       rintro _ ⟨b, hb, rfl⟩
       rcases hb.dich with ⟨rfl, v⟩ | ⟨rfl, v⟩ <;> clear hb <;> (cbv; try simp only [wp, (show ∀ n : Nat, _ = n from fun n => wf.2.2.2.2.2.2.2.2.2.2.2.2.2.1 (Int.ofNat n)), (show _ = (0 : Nat) from wf.2.2.2.2.2.2.2.2.2.2.2.2.2.1 0), getL, takeL, dropL, TK.isAgg, reduceIte]))
    | (refine (RValid c' n' V' P' (by omega)).call ?_
       rintro _ ⟨b, hb, rfl⟩
       rcases hb.dich with ⟨rfl, v'⟩ | ⟨rfl, v'⟩ <;> clear hb <;> (cbv; try simp only [wp, (show ∀ n : Nat, _ = n from fun n => wf.2.2.2.2.2.2.2.2.2.2.2.2.2.1 (Int.ofNat n)), (show _ = (0 : Nat) from wf.2.2.2.2.2.2.2.2.2.2.2.2.2.1 0), getL, takeL, dropL, TK.isAgg, reduceIte]))
    | (refine (least c n V P0 hn).call ?_
       rintro _ ⟨x, hx, rfl⟩
       (cbv; try simp only [wp, (show ∀ n : Nat, _ = n from fun n => wf.2.2.2.2.2.2.2.2.2.2.2.2.2.1 (Int.ofNat n)), (show _ = (0 : Nat) from wf.2.2.2.2.2.2.2.2.2.2.2.2.2.1 0), getL, takeL, dropL, TK.isAgg, reduceIte]))
    | (refine (least c' n' V' P' hn').call ?_
       rintro _ ⟨y, hy, rfl⟩
       (cbv; try simp only [wp, (show ∀ n : Nat, _ = n from fun n => wf.2.2.2.2.2.2.2.2.2.2.2.2.2.1 (Int.ofNat n)), (show _ = (0 : Nat) from wf.2.2.2.2.2.2.2.2.2.2.2.2.2.1 0), getL, takeL, dropL, TK.isAgg, reduceIte]))
    | ((refine Later.mk ?_; cbv; try simp only [wp, (show ∀ n : Nat, _ = n from fun n => wf.2.2.2.2.2.2.2.2.2.2.2.2.2.1 (Int.ofNat n)), (show _ = (0 : Nat) from wf.2.2.2.2.2.2.2.2.2.2.2.2.2.1 0), getL, takeL, dropL, TK.isAgg, reduceIte])
       exact hR _ _ (iffF fun h => (by first
         | exact v h.1
         | exact v' h.2.1
         | (have := ((LeqP_ref v.1 v'.1).1 h.2.2).1; omega))))
    | (refine Later.mk ?_; cbv; try simp only [wp, (show ∀ n : Nat, _ = n from fun n => wf.2.2.2.2.2.2.2.2.2.2.2.2.2.1 (Int.ofNat n)), (show _ = (0 : Nat) from wf.2.2.2.2.2.2.2.2.2.2.2.2.2.1 0), getL, takeL, dropL, TK.isAgg, reduceIte])
  all_goals
    have hle := LeqP_ref (c := c) (c' := c') (n := n) (n' := n') (V := V) (V' := V') (P := P0) (P' := P') v.1 v'.1
    have h0 : leastF P0 c n ≤ leastF P' c' n' := by omega
    have key : ∀ b : Bool, (b = true ↔ ∀ i, i < n → InP V P0 n' V' P' i) → (b = true ↔ ValidP c n V P0 ∧ ValidP c' n' V' P' ∧ LeqP c n V P0 c' n' V' P') := fun b hb => ⟨fun h => ⟨v, v', hle.2 ⟨h0, hb.1 h⟩⟩, fun h => hb.2 (hle.1 h.2.2).2⟩
    replace hR := fun b H h => hR b H (key b h)
    clear key hle h0 hx hy
    refine loopO (Tf := @T) @tabOk [(10, upF 0 28)] 400 (fun i : Nat => ⟨[lv c n V P0, lv c' n' V' P', .ptr 0 0, .ptr 1 0, .undef, .d (.int .i64 i), .undef, .undef, .undef, .undef, .undef, .undef, .undef, .undef, .undef, .undef, .undef, .undef, .undef, .undef, .undef, .undef, .undef, .undef, .undef, .undef, .undef, .undef, .undef, .undef, .undef, .undef, .undef, .undef, .undef, .undef, .undef, .undef, .undef, .undef, .undef, .undef, .undef, .undef, .undef, .undef, .undef, .undef, .undef, .undef, .undef, .undef, .undef, .undef, .undef, .undef, .undef, .undef, .undef, .undef, .undef, .undef, .undef, .undef, .undef, .undef, .undef], [.box [.d (.int .i64 c), .d (.sl n 2 (lvF V P0))], .box [.d (.int .i64 c'), .d (.sl n' 2 (lvF V' P'))]]⟩) (fun i => n - i) (fun i => i ≤ n ∧ ∀ k, k < i → InP V P0 n' V' P' k) 0 ⟨Nat.zero_le _, fun k hk => absurd hk (Nat.not_lt_zero _)⟩ (fun {_} => by kernel_rfl) ?_ (fun i => rfl) @fun ⟨_, _, _, _, _, _, _, _, _, _, _, _, _, _, _, _, _, _, _, _, _, _, _, _, _, _, _, _, _, _, _, _, _, _, _, _, _, _, wpa, wfa⟩ i Bk hi hBk => ?_
    · ((cbv; try simp only [wf, exD, exL, exT, exB, exA, leLs, leL_d, leL_undef, leL_nils, leA_nils, deq_refl, deq_int, deq_bool, deq_str, and_true, true_and, AObj.iter.injEq, nc, nc']; try simp (disch := omega) only [w64, w32, wu8]); first | done | rfl | omega | (simp; done) | (simp; omega) | skip)
    (cbv; try simp only [wp, (show ∀ n : Nat, _ = n from fun n => wf.2.2.2.2.2.2.2.2.2.2.2.2.2.1 (Int.ofNat n)), (show _ = (0 : Nat) from wf.2.2.2.2.2.2.2.2.2.2.2.2.2.1 0), wpa, (show ∀ n : Nat, _ = n from fun n => wfa.2.2.2.2.2.2.2.2.2.2.2.2.2.1 (Int.ofNat n)), (show _ = (0 : Nat) from wfa.2.2.2.2.2.2.2.2.2.2.2.2.2.1 0), getL, takeL, dropL, TK.isAgg, reduceIte])
    obtain ⟨i1, i2⟩ := hi
    refine ⟨fun e => ?_, fun e => ?_⟩
    · have e : i < n := (by (try simp only [wf, wfa, nc, nc', Int.toNat_natCast, bsz, ByteArray.size_append, List.length_cons, List.length_nil] at *); (try simp (disch := omega) only [w64, w32, wu8] at *); first | done | omega)
      (refine Later.mk ?_; cbv; try simp only [wp, (show ∀ n : Nat, _ = n from fun n => wf.2.2.2.2.2.2.2.2.2.2.2.2.2.1 (Int.ofNat n)), (show _ = (0 : Nat) from wf.2.2.2.2.2.2.2.2.2.2.2.2.2.1 0), wpa, (show ∀ n : Nat, _ = n from fun n => wfa.2.2.2.2.2.2.2.2.2.2.2.2.2.1 (Int.ofNat n)), (show _ = (0 : Nat) from wfa.2.2.2.2.2.2.2.2.2.2.2.2.2.1 0), getL, takeL, dropL, TK.isAgg, reduceIte])
      refine loopO (Tf := @T) @tabOk [(10, upF 0 28)] 400 (fun y : Nat × Bool => ⟨[lv c n V P0, lv c' n' V' P', .ptr 0 0, .ptr 1 0, .undef, .d (.int .i64 i), .d (.bool y.2), .d (.int .i64 y.1), .undef, .undef, .undef, .undef, .undef, .undef, .undef, .undef, .undef, .undef, .undef, .undef, .undef, .undef, .undef, .undef, .undef, .undef, .undef, .undef, .undef, .undef, .undef, .undef, .undef, .undef, .undef, .undef, .undef, .undef, .undef, .undef, .undef, .undef, .undef, .undef, .undef, .undef, .undef, .undef, .undef, .undef, .undef, .undef, .undef, .undef, .undef, .undef, .undef, .undef, .undef, .undef, .undef, .undef, .undef, .undef, .undef, .undef, .undef], [.box [.d (.int .i64 c), .d (.sl n 2 (lvF V P0))], .box [.d (.int .i64 c'), .d (.sl n' 2 (lvF V' P'))]]⟩) (fun y => n' - y.1) (fun y => y.1 ≤ n' ∧ (y.2 = true ↔ InP V P0 y.1 V' P' i)) (0, false) ⟨Nat.zero_le _, iffF fun h => (by obtain ⟨k, hk, _⟩ := h; exact absurd hk (Nat.not_lt_zero _))⟩ (fun {_} => by kernel_rfl) ?_ (fun i => rfl) @fun ⟨_, _, _, _, _, _, _, _, _, _, _, _, _, _, _, _, _, _, _, _, _, _, _, _, _, _, _, _, _, _, _, _, _, _, _, _, _, _, wpb, wfb⟩ ⟨k, f⟩ Bk2 hk hBk2 => ?_
      · ((cbv; try simp only [wf, wfa, exD, exL, exT, exB, exA, leLs, leL_d, leL_undef, leL_nils, leA_nils, deq_refl, deq_int, deq_bool, deq_str, and_true, true_and, AObj.iter.injEq, nc, nc']; try simp (disch := omega) only [w64, w32, wu8]); first | done | rfl | omega | (simp; done) | (simp; omega) | skip)
      obtain ⟨k1, k2⟩ := hk
      dsimp only at k1 k2
      (cbv; try simp only [wp, (show ∀ n : Nat, _ = n from fun n => wf.2.2.2.2.2.2.2.2.2.2.2.2.2.1 (Int.ofNat n)), (show _ = (0 : Nat) from wf.2.2.2.2.2.2.2.2.2.2.2.2.2.1 0), wpa, (show ∀ n : Nat, _ = n from fun n => wfa.2.2.2.2.2.2.2.2.2.2.2.2.2.1 (Int.ofNat n)), (show _ = (0 : Nat) from wfa.2.2.2.2.2.2.2.2.2.2.2.2.2.1 0), wpb, (show ∀ n : Nat, _ = n from fun n => wfb.2.2.2.2.2.2.2.2.2.2.2.2.2.1 (Int.ofNat n)), (show _ = (0 : Nat) from wfb.2.2.2.2.2.2.2.2.2.2.2.2.2.1 0), getL, takeL, dropL, TK.isAgg, reduceIte])
      refine ⟨fun e2 => ?_, fun e2 => ?_⟩
      · have e2 : k < n' := (by (try simp only [wf, wfa, wfb, nc, nc', Int.toNat_natCast, bsz, ByteArray.size_append, List.length_cons, List.length_nil] at *); (try simp (disch := omega) only [w64, w32, wu8] at *); first | done | omega)
        (refine Later.mk ?_; cbv; try simp only [wp, (show ∀ n : Nat, _ = n from fun n => wf.2.2.2.2.2.2.2.2.2.2.2.2.2.1 (Int.ofNat n)), (show _ = (0 : Nat) from wf.2.2.2.2.2.2.2.2.2.2.2.2.2.1 0), wpa, (show ∀ n : Nat, _ = n from fun n => wfa.2.2.2.2.2.2.2.2.2.2.2.2.2.1 (Int.ofNat n)), (show _ = (0 : Nat) from wfa.2.2.2.2.2.2.2.2.2.2.2.2.2.1 0), wpb, (show ∀ n : Nat, _ = n from fun n => wfb.2.2.2.2.2.2.2.2.2.2.2.2.2.1 (Int.ofNat n)), (show _ = (0 : Nat) from wfb.2.2.2.2.2.2.2.2.2.2.2.2.2.1 0), getL, takeL, dropL, TK.isAgg, reduceIte])
        repeat' first | with_reducible refine And.intro ?_ ?_ | intro c9
        all_goals first
          | exact (by (try simp only [wf, wfa, wfb, nc, nc', Int.toNat_natCast, bsz, ByteArray.size_append, List.length_cons, List.length_nil] at *); (try simp (disch := omega) only [w64, w32, wu8] at *); first | done | omega)
          | trivial
          | ((refine Later.mk ?_; cbv; try simp only [wp, (show ∀ n : Nat, _ = n from fun n => wf.2.2.2.2.2.2.2.2.2.2.2.2.2.1 (Int.ofNat n)), (show _ = (0 : Nat) from wf.2.2.2.2.2.2.2.2.2.2.2.2.2.1 0), wpa, (show ∀ n : Nat, _ = n from fun n => wfa.2.2.2.2.2.2.2.2.2.2.2.2.2.1 (Int.ofNat n)), (show _ = (0 : Nat) from wfa.2.2.2.2.2.2.2.2.2.2.2.2.2.1 0), wpb, (show ∀ n : Nat, _ = n from fun n => wfb.2.2.2.2.2.2.2.2.2.2.2.2.2.1 (Int.ofNat n)), (show _ = (0 : Nat) from wfb.2.2.2.2.2.2.2.2.2.2.2.2.2.1 0), getL, takeL, dropL, TK.isAgg, reduceIte])
             refine hBk2 (k + 1, true) _ (by dsimp only; omega) ⟨by dsimp only; omega, iffT ⟨k, by dsimp only; omega, (by (try simp only [wf, wfa, wfb, nc, nc', Int.toNat_natCast, bsz, ByteArray.size_append, List.length_cons, List.length_nil] at *); (try simp (disch := omega) only [w64, w32, wu8] at *); first | done | omega), (by (try simp only [wf, wfa, wfb, nc, nc', Int.toNat_natCast, bsz, ByteArray.size_append, List.length_cons, List.length_nil] at *); (try simp (disch := omega) only [w64, w32, wu8] at *); first | done | omega)⟩⟩ ?_
             ((cbv; try simp only [wf, wfa, wfb, exD, exL, exT, exB, exA, leLs, leL_d, leL_undef, leL_nils, leA_nils, deq_refl, deq_int, deq_bool, deq_str, and_true, true_and, AObj.iter.injEq, nc, nc']; try simp (disch := omega) only [w64, w32, wu8]); first | done | rfl | omega | (simp; done) | (simp; omega) | skip))
          | ((refine Later.mk ?_; cbv; try simp only [wp, (show ∀ n : Nat, _ = n from fun n => wf.2.2.2.2.2.2.2.2.2.2.2.2.2.1 (Int.ofNat n)), (show _ = (0 : Nat) from wf.2.2.2.2.2.2.2.2.2.2.2.2.2.1 0), wpa, (show ∀ n : Nat, _ = n from fun n => wfa.2.2.2.2.2.2.2.2.2.2.2.2.2.1 (Int.ofNat n)), (show _ = (0 : Nat) from wfa.2.2.2.2.2.2.2.2.2.2.2.2.2.1 0), wpb, (show ∀ n : Nat, _ = n from fun n => wfb.2.2.2.2.2.2.2.2.2.2.2.2.2.1 (Int.ofNat n)), (show _ = (0 : Nat) from wfb.2.2.2.2.2.2.2.2.2.2.2.2.2.1 0), getL, takeL, dropL, TK.isAgg, reduceIte])
             refine hBk2 (k + 1, f) _ (by dsimp only; omega) ⟨by dsimp only; omega, ⟨fun h => InP_up (k2.1 h), fun h => k2.2 (InP_dn h (fun h1 h2 => ?_))⟩⟩ ?_
             · exact (by (try simp only [wf, wfa, wfb, nc, nc', Int.toNat_natCast, bsz, ByteArray.size_append, List.length_cons, List.length_nil] at *); (try simp (disch := omega) only [w64, w32, wu8] at *); first | done | omega)
             · ((cbv; try simp only [wf, wfa, wfb, exD, exL, exT, exB, exA, leLs, leL_d, leL_undef, leL_nils, leA_nils, deq_refl, deq_int, deq_bool, deq_str, and_true, true_and, AObj.iter.injEq, nc, nc']; try simp (disch := omega) only [w64, w32, wu8]); first | done | rfl | omega | (simp; done) | (simp; omega) | skip))
      · obtain rfl : k = n' := (by (try simp only [wf, wfa, wfb, nc, nc', Int.toNat_natCast, bsz, ByteArray.size_append, List.length_cons, List.length_nil] at *); (try simp (disch := omega) only [w64, w32, wu8] at *); first | done | omega)
        cases f
        · repeat (refine Later.mk ?_; cbv; try simp only [wp, (show ∀ n : Nat, _ = n from fun n => wf.2.2.2.2.2.2.2.2.2.2.2.2.2.1 (Int.ofNat n)), (show _ = (0 : Nat) from wf.2.2.2.2.2.2.2.2.2.2.2.2.2.1 0), wpa, (show ∀ n : Nat, _ = n from fun n => wfa.2.2.2.2.2.2.2.2.2.2.2.2.2.1 (Int.ofNat n)), (show _ = (0 : Nat) from wfa.2.2.2.2.2.2.2.2.2.2.2.2.2.1 0), wpb, (show ∀ n : Nat, _ = n from fun n => wfb.2.2.2.2.2.2.2.2.2.2.2.2.2.1 (Int.ofNat n)), (show _ = (0 : Nat) from wfb.2.2.2.2.2.2.2.2.2.2.2.2.2.1 0), getL, takeL, dropL, TK.isAgg, reduceIte])
          exact hR _ _ (iffF fun h => (by simpa using k2.2 (h i e)))
        · repeat (refine Later.mk ?_; cbv; try simp only [wp, (show ∀ n : Nat, _ = n from fun n => wf.2.2.2.2.2.2.2.2.2.2.2.2.2.1 (Int.ofNat n)), (show _ = (0 : Nat) from wf.2.2.2.2.2.2.2.2.2.2.2.2.2.1 0), wpa, (show ∀ n : Nat, _ = n from fun n => wfa.2.2.2.2.2.2.2.2.2.2.2.2.2.1 (Int.ofNat n)), (show _ = (0 : Nat) from wfa.2.2.2.2.2.2.2.2.2.2.2.2.2.1 0), wpb, (show ∀ n : Nat, _ = n from fun n => wfb.2.2.2.2.2.2.2.2.2.2.2.2.2.1 (Int.ofNat n)), (show _ = (0 : Nat) from wfb.2.2.2.2.2.2.2.2.2.2.2.2.2.1 0), getL, takeL, dropL, TK.isAgg, reduceIte])
          refine hBk (i + 1) _ (by omega) ⟨by omega, fun j hj => ?_⟩ ?_
          · by_cases e3 : j = i
            · subst e3; exact k2.1 rfl
            · exact i2 j (by omega)
          · ((cbv; try simp only [wf, wfa, wfb, exD, exL, exT, exB, exA, leLs, leL_d, leL_undef, leL_nils, leA_nils, deq_refl, deq_int, deq_bool, deq_str, and_true, true_and, AObj.iter.injEq, nc, nc']; try simp (disch := omega) only [w64, w32, wu8]); first | done | rfl | omega | (simp; done) | (simp; omega) | skip)
    · obtain rfl : i = n := (by (try simp only [wf, wfa, nc, nc', Int.toNat_natCast, bsz, ByteArray.size_append, List.length_cons, List.length_nil] at *); (try simp (disch := omega) only [w64, w32, wu8] at *); first | done | omega)
      (refine Later.mk ?_; cbv; try simp only [wp, (show ∀ n : Nat, _ = n from fun n => wf.2.2.2.2.2.2.2.2.2.2.2.2.2.1 (Int.ofNat n)), (show _ = (0 : Nat) from wf.2.2.2.2.2.2.2.2.2.2.2.2.2.1 0), wpa, (show ∀ n : Nat, _ = n from fun n => wfa.2.2.2.2.2.2.2.2.2.2.2.2.2.1 (Int.ofNat n)), (show _ = (0 : Nat) from wfa.2.2.2.2.2.2.2.2.2.2.2.2.2.1 0), getL, takeL, dropL, TK.isAgg, reduceIte])
      exact hR _ _ (iffT i2)
theorem REqual (c c' : Int) (n n' : Nat) (V P0 V' P' : Nat → Int) (hn : n < 2 ^ 62) (hn' : n' < 2 ^ 62) : VFun (P ()) 15 [lv c n V P0, lv c' n' V' P'] (fun r => ∃ b : Bool, (b = true ↔ ValidP c n V P0 ∧ ValidP c' n' V' P' ∧ LeqP c n V P0 c' n' V' P' ∧ LeqP c' n' V' P' c n V P0) ∧ r = .d (.bool b)) := by
  refine vfunO (Tf := @T) @tabOk [] 400 Tryd.func15 rfl (fun {_} => by kernel_rfl) rfl (Nat.le_of_ble_eq_true rfl) @fun ⟨_, _, _, _, _, _, _, _, _, _, _, _, _, _, _, _, _, _, _, _, _, _, _, _, _, _, _, _, _, _, _, _, _, _, _, _, _, _, wp, wf⟩ R hR => ?_
  cbv
  try simp only [wp, (show ∀ n : Nat, _ = n from fun n => wf.2.2.2.2.2.2.2.2.2.2.2.2.2.1 (Int.ofNat n)), getL, takeL, dropL, TK.isAgg, reduceIte]
  replace hR := fun b H h => hR _ H _ (.d (.bool b)) ⟨b, h, rfl⟩
  refine (RLeq c c' n n' V P0 V' P' hn hn').call ?_
  rintro _ ⟨b, hb, rfl⟩
  cases b <;> (cbv; try simp only [wp, (show ∀ n : Nat, _ = n from fun n => wf.2.2.2.2.2.2.2.2.2.2.2.2.2.1 (Int.ofNat n)), (show _ = (0 : Nat) from wf.2.2.2.2.2.2.2.2.2.2.2.2.2.1 0), getL, takeL, dropL, TK.isAgg, reduceIte])
  · exact hR _ _ (iffF fun h => (by simpa using hb.2 ⟨h.1, h.2.1, h.2.2.1⟩))
  · have v := hb.1 rfl
    refine (RLeq c' c n' n V' P' V P0 hn' hn).call ?_
    rintro _ ⟨b, hb, rfl⟩
    (cbv; try simp only [wp, (show ∀ n : Nat, _ = n from fun n => wf.2.2.2.2.2.2.2.2.2.2.2.2.2.1 (Int.ofNat n)), (show _ = (0 : Nat) from wf.2.2.2.2.2.2.2.2.2.2.2.2.2.1 0), getL, takeL, dropL, TK.isAgg, reduceIte])
    exact hR _ _ ⟨fun h => ⟨v.1, v.2.1, v.2.2, (hb.1 h).2.2⟩, fun h => hb.2 ⟨v.2.1, v.1, h.2.2.2⟩⟩
end Go.VM

namespace Go.VM
open Go.Proofs Go
set_option maxRecDepth 100000
set_option linter.unusedVariables false
set_option linter.unusedSimpArgs false
theorem isNaN (x : Int) : VFun (P ()) 64 [.d (.int .i64 x)] (fun r => r = .d (.bool false)) := by
  refine vfunO (Tf := @T) @tabOk [] 400 Tryd.func64 rfl (fun {_} => by kernel_rfl) rfl (Nat.le_of_ble_eq_true rfl) @fun ⟨_, _, _, _, _, _, _, _, _, _, _, _, _, _, _, _, _, _, _, _, _, _, _, _, _, _, _, _, _, _, _, _, _, _, _, _, _, _, wp, wf⟩ R hR => ?_
  cbv
  try simp only [wp, (show ∀ n : Nat, _ = n from fun n => wf.2.2.2.2.2.2.2.2.2.2.2.2.2.1 (Int.ofNat n)), getL, takeL, dropL, TK.isAgg, reduceIte]
  repeat' first | with_reducible refine And.intro ?_ ?_ | intro c9
  all_goals first | exact hR _ _ _ (.d _) rfl | (exact absurd rfl c9) | trivial | skip
theorem Compare (x y : Int) : VFun (P ()) 55 [.d (.int .i64 x), .d (.int .i64 y)] (fun r => ∃ z : Int, z = (if x < y then -1 else if y < x then 1 else 0) ∧ r = .d (.int .i64 z)) := by
  refine vfunO (Tf := @T) @tabOk [] 400 Tryd.func55 rfl (fun {_} => by kernel_rfl) rfl (Nat.le_of_ble_eq_true rfl) @fun ⟨_, _, _, _, _, _, _, _, _, _, _, _, _, _, _, _, _, _, _, _, _, _, _, _, _, _, _, _, _, _, _, _, _, _, _, _, _, _, wp, wf⟩ R hR => ?_
  cbv
  try simp only [wp, (show ∀ n : Nat, _ = n from fun n => wf.2.2.2.2.2.2.2.2.2.2.2.2.2.1 (Int.ofNat n)), getL, takeL, dropL, TK.isAgg, reduceIte]
  replace hR := fun b H h => hR _ H _ (.d (.int .i64 b)) ⟨b, h, rfl⟩
  refine (isNaN x).call ?_
  rintro _ rfl
  (cbv; try simp only [wp, (show ∀ n : Nat, _ = n from fun n => wf.2.2.2.2.2.2.2.2.2.2.2.2.2.1 (Int.ofNat n)), (show _ = (0 : Nat) from wf.2.2.2.2.2.2.2.2.2.2.2.2.2.1 0), getL, takeL, dropL, TK.isAgg, reduceIte])
  refine (isNaN y).call ?_
  rintro _ rfl
  (cbv; try simp only [wp, (show ∀ n : Nat, _ = n from fun n => wf.2.2.2.2.2.2.2.2.2.2.2.2.2.1 (Int.ofNat n)), (show _ = (0 : Nat) from wf.2.2.2.2.2.2.2.2.2.2.2.2.2.1 0), getL, takeL, dropL, TK.isAgg, reduceIte])
  repeat (refine Later.mk ?_; cbv; try simp only [wp, (show ∀ n : Nat, _ = n from fun n => wf.2.2.2.2.2.2.2.2.2.2.2.2.2.1 (Int.ofNat n)), (show _ = (0 : Nat) from wf.2.2.2.2.2.2.2.2.2.2.2.2.2.1 0), getL, takeL, dropL, TK.isAgg, reduceIte])
  repeat' first | with_reducible refine And.intro ?_ ?_ | intro c9
  all_goals repeat (refine Later.mk ?_; cbv; try simp only [wp, (show ∀ n : Nat, _ = n from fun n => wf.2.2.2.2.2.2.2.2.2.2.2.2.2.1 (Int.ofNat n)), (show _ = (0 : Nat) from wf.2.2.2.2.2.2.2.2.2.2.2.2.2.1 0), getL, takeL, dropL, TK.isAgg, reduceIte])
  all_goals
    repeat' first | with_reducible refine And.intro ?_ ?_ | intro c9
    all_goals repeat (refine Later.mk ?_; cbv; try simp only [wp, (show ∀ n : Nat, _ = n from fun n => wf.2.2.2.2.2.2.2.2.2.2.2.2.2.1 (Int.ofNat n)), (show _ = (0 : Nat) from wf.2.2.2.2.2.2.2.2.2.2.2.2.2.1 0), getL, takeL, dropL, TK.isAgg, reduceIte])
    all_goals first
      | (refine hR _ _ ?_; (repeat' split) <;> omega)
      | skip
theorem sorted1 (a b a' b' : Int) : VFun (P ()) 58 [.agg [.d (.int .i64 a), .d (.int .i64 b)], .agg [.d (.int .i64 a'), .d (.int .i64 b')]] (fun r => ∃ z : Int, z = (if a < a' then -1 else if a' < a then 1 else 0) ∧ r = .d (.int .i64 z)) := by
  refine vfunO (Tf := @T) @tabOk [] 400 Tryd.func58 rfl (fun {_} => by kernel_rfl) rfl (Nat.le_of_ble_eq_true rfl) @fun ⟨_, _, _, _, _, _, _, _, _, _, _, _, _, _, _, _, _, _, _, _, _, _, _, _, _, _, _, _, _, _, _, _, _, _, _, _, _, _, wp, wf⟩ R hR => ?_
  cbv
  try simp only [wp, (show ∀ n : Nat, _ = n from fun n => wf.2.2.2.2.2.2.2.2.2.2.2.2.2.1 (Int.ofNat n)), getL, takeL, dropL, TK.isAgg, reduceIte]
  refine (Compare a a').call ?_
  rintro _ ⟨z, hz, rfl⟩
  (cbv; try simp only [wp, (show ∀ n : Nat, _ = n from fun n => wf.2.2.2.2.2.2.2.2.2.2.2.2.2.1 (Int.ofNat n)), (show _ = (0 : Nat) from wf.2.2.2.2.2.2.2.2.2.2.2.2.2.1 0), getL, takeL, dropL, TK.isAgg, reduceIte])
  exact hR _ _ _ (.d _) ⟨z, hz, rfl⟩
theorem Clone1 (m : Nat) (g : Nat → Nat → D) (hm : m < 2 ^ 30) : VCalls (P ()) 56 [.d (.sl m 2 g)] [] (fun r H' => (m = 0 ∧ r = .nils ∧ H' = []) ∨ ∃ n' g', n' = m ∧ (∀ i j, i < m → g' i j = g i j) ∧ r = .ref 0 0 n' 2 ∧ H' = [.arr n' 2 g' 0]) := by
  refine VCalls_of_W (Tf := @T) @tabOk Tryd.func56 rfl (Nat.le_of_ble_eq_true rfl) @fun ⟨_, _, _, _, _, _, _, _, _, _, _, _, _, _, _, _, _, _, _, _, _, _, _, _, _, _, _, _, _, _, _, _, _, _, _, _, _, _, wp, wf⟩ nH R hnH hR => ?_
  subst hnH
  cbv
  try simp only [wp, (show ∀ n : Nat, _ = n from fun n => wf.2.2.2.2.2.2.2.2.2.2.2.2.2.1 (Int.ofNat n)), getL, takeL, dropL, TK.isAgg, reduceIte]
  repeat' first | with_reducible refine And.intro ?_ ?_ | intro c9
  all_goals first
    | exact (by (try simp only [wf, nc, nc', Int.toNat_natCast, bsz, ByteArray.size_append, List.length_cons, List.length_nil] at *); (try simp (disch := omega) only [w64, w32, wu8] at *); first | done | omega)
    | trivial
    | exact hR _ _ (.inl ⟨(by (try simp only [wf, nc, nc', Int.toNat_natCast, bsz, ByteArray.size_append, List.length_cons, List.length_nil] at *); (try simp (disch := omega) only [w64, w32, wu8] at *); first | done | omega), rfl, rfl⟩)
    | (refine hR _ _ (.inr ⟨_, _, ?_, ?_, rfl, rfl⟩)
       · ((try simp only [wf, nc, nc', Int.toNat_natCast, bsz, ByteArray.size_append, List.length_cons, List.length_nil] at *); (try simp (disch := omega) only [w64, w32, wu8] at *))
         omega
       · intro i j hi
         ((try simp only [wf, nc, nc', Int.toNat_natCast, bsz, ByteArray.size_append, List.length_cons, List.length_nil] at *); (try simp (disch := omega) only [w64, w32, wu8] at *))
         simp [appF])
theorem Clone (m : Nat) (g : Nat → Nat → D) (hm : m < 2 ^ 30) : VCalls (P ()) 56 [.d (.sl m 2 g)] [] (fun r H' => (m = 0 ∧ r = .nils ∧ H' = []) ∨ (r = .ref 0 0 m 2 ∧ H' = [.arr m 2 g 0])) :=
  (Clone1 m g hm).less fun r H' h => by
    rcases h with ⟨rfl, rfl, rfl⟩ | ⟨n', g', rfl, hg, rfl, rfl⟩
    · exact ⟨[], trivial, Nat.le_refl _, rfl, rfl, .inl ⟨rfl, rfl, rfl⟩⟩
    · exact ⟨[.arr n' 2 g 0], ⟨⟨g', 0, rfl, Nat.le_refl _, Nat.zero_le _, fun i j hi _ => .of_eq (hg i j hi)⟩, trivial⟩, Nat.zero_le _, rfl, rfl, .inr ⟨rfl, rfl⟩⟩
theorem swp_upd (V P0 : Nat → Int) {j k : Nat} (hj : 0 < j) (hk : k = j - 1) (x y : Nat) (hy : y < 2) :
    updF (updF (updF (updF (lvF V P0) j 0 (.int .i64 (V k))) j 1 (.int .i64 (P0 k))) k 0 (.int .i64 (V j))) k 1 (.int .i64 (P0 j)) x y = lvF (swp V j) (swp P0 j) x y := by
  subst hk
  have hne : j ≠ j - 1 := by omega
  match y, hy with
  | 0, _ =>
    simp only [updF, lvF, swp]
    by_cases h1 : x = j - 1
    · subst h1; simp [Ne.symm hne]
    · by_cases h2 : x = j
      · subst h2; simp [hne]
      · simp [h1, h2]
  | 1, _ =>
    simp only [updF, lvF, swp]
    by_cases h1 : x = j - 1
    · subst h1; simp [Ne.symm hne]
    · by_cases h2 : x = j
      · subst h2; simp [hne]
      · simp [h1, h2]
structure Sy where
  i : Nat
  V : Nat → Int
  P : Nat → Int
theorem insSort (n : Nat) (V P0 : Nat → Int) (hn : n ≤ 8) : VCalls (P ()) 79 [.ref 0 0 n 2, .d (.int .i64 0), .d (.int .i64 n), .clo 58 [] []] [.arr n 2 (lvF V P0) 0]
    (fun r H => r = .tup [] ∧ ∃ V' P', (lst V' P' n).Perm (lst V P0 n) ∧ upTo V' n ∧ H = [.arr n 2 (lvF V' P') 0]) := by
  refine VCalls_of_Wo (Tf := @T) @tabOk [(4, upF 0 17), (6, upF 0 18)] 400 Tryd.func79 rfl (fun {_} => by kernel_rfl) (Nat.le_of_ble_eq_true rfl) @fun ⟨_, _, _, _, _, _, _, _, _, _, _, _, _, _, _, _, _, _, _, _, _, _, _, _, _, _, _, _, _, _, _, _, _, _, _, _, _, _, wp, wf⟩ nH R hnH hR => ?_
  subst hnH
  cbv
  try simp only [wp, (show ∀ n : Nat, _ = n from fun n => wf.2.2.2.2.2.2.2.2.2.2.2.2.2.1 (Int.ofNat n)), getL, takeL, dropL, TK.isAgg, reduceIte]
  refine loopO (Tf := @T) @tabOk [(4, upF 0 17), (6, upF 0 18)] 400 (fun y : Sy => ⟨[.ref 0 0 n 2, .d (.int .i64 0), .d (.int .i64 n), .clo 58 [] [], .undef, .undef, .undef, .undef, .d (.int .i64 y.i), .undef, .undef, .undef, .undef, .undef, .undef, .undef, .undef, .undef, .undef, .undef, .undef, .undef, .undef, .undef, .undef, .undef, .undef, .undef, .undef, .undef, .undef, .undef, .undef, .undef, .undef, .undef, .undef, .undef, .undef, .undef, .undef, .undef, .undef, .undef, .undef, .undef, .undef, .undef, .undef, .undef, .undef, .undef, .undef], [.arr n 2 (lvF y.V y.P) 0]⟩) (fun y => n - y.i) (fun y => 1 ≤ y.i ∧ (y.i ≤ n ∨ y.i = 1) ∧ (lst y.V y.P n).Perm (lst V P0 n) ∧ upTo y.V y.i) ⟨1, V, P0⟩ ⟨Nat.le_refl _, .inr rfl, .refl _, fun k l h1 h2 => absurd h2 (by dsimp only; omega)⟩ (fun {_} => by kernel_rfl) ?_ (fun i => rfl) @fun ⟨_, _, _, _, _, _, _, _, _, _, _, _, _, _, _, _, _, _, _, _, _, _, _, _, _, _, _, _, _, _, _, _, _, _, _, _, _, _, wpa, wfa⟩ ⟨i, V1, P1⟩ Bk hi hBk => ?_
  · ((cbv; try simp only [wf, exD, exL, exT, exB, exA, leLs, leL_d, leL_undef, leL_nils, leA_nils, deq_refl, deq_int, deq_bool, deq_str, and_true, true_and, AObj.iter.injEq, nc, nc']; try simp (disch := omega) only [w64, w32, wu8]); first | done | rfl | omega | (simp; done) | (simp; omega) | skip)
  (cbv; try simp only [wp, (show ∀ n : Nat, _ = n from fun n => wf.2.2.2.2.2.2.2.2.2.2.2.2.2.1 (Int.ofNat n)), (show _ = (0 : Nat) from wf.2.2.2.2.2.2.2.2.2.2.2.2.2.1 0), wpa, (show ∀ n : Nat, _ = n from fun n => wfa.2.2.2.2.2.2.2.2.2.2.2.2.2.1 (Int.ofNat n)), (show _ = (0 : Nat) from wfa.2.2.2.2.2.2.2.2.2.2.2.2.2.1 0), getL, takeL, dropL, TK.isAgg, reduceIte])
  obtain ⟨i1, i2, i3, i4⟩ := hi
  dsimp only at i1 i2 i3 i4
  refine ⟨fun e => ?_, fun e => ?_⟩
  · have e : i < n := (by (try simp only [wf, wfa, nc, nc', Int.toNat_natCast, bsz, ByteArray.size_append, List.length_cons, List.length_nil] at *); (try simp (disch := omega) only [w64, w32, wu8] at *); first | done | omega)
    (refine Later.mk ?_; cbv; try simp only [wp, (show ∀ n : Nat, _ = n from fun n => wf.2.2.2.2.2.2.2.2.2.2.2.2.2.1 (Int.ofNat n)), (show _ = (0 : Nat) from wf.2.2.2.2.2.2.2.2.2.2.2.2.2.1 0), wpa, (show ∀ n : Nat, _ = n from fun n => wfa.2.2.2.2.2.2.2.2.2.2.2.2.2.1 (Int.ofNat n)), (show _ = (0 : Nat) from wfa.2.2.2.2.2.2.2.2.2.2.2.2.2.1 0), getL, takeL, dropL, TK.isAgg, reduceIte])
    refine loopO (Tf := @T) @tabOk [(4, upF 0 17), (6, upF 0 18)] 400 (fun y : Sy => ⟨[.ref 0 0 n 2, .d (.int .i64 0), .d (.int .i64 n), .clo 58 [] [], .undef, .undef, .undef, .undef, .d (.int .i64 i), .d (.int .i64 y.i), .undef, .undef, .undef, .undef, .undef, .undef, .undef, .undef, .undef, .undef, .undef, .undef, .undef, .undef, .undef, .undef, .undef, .undef, .undef, .undef, .undef, .undef, .undef, .undef, .undef, .undef, .undef, .undef, .undef, .undef, .undef, .undef, .undef, .undef, .undef, .undef, .undef, .undef, .undef, .undef, .undef, .undef, .undef], [.arr n 2 (lvF y.V y.P) 0]⟩) (fun y => y.i) (fun y => (lst y.V y.P n).Perm (lst V P0 n) ∧ upBut y.V i y.i) ⟨i, V1, P1⟩ ⟨i3, upBut_start i4⟩ (fun {_} => by kernel_rfl) ?_ (fun i => rfl) @fun ⟨_, _, _, _, _, _, _, _, _, _, _, _, _, _, _, _, _, _, _, _, _, _, _, _, _, _, _, _, _, _, _, _, _, _, _, _, _, _, wpb, wfb⟩ ⟨j, V2, P2⟩ Bk2 hj hBk2 => ?_
    · ((cbv; try simp only [wf, wfa, exD, exL, exT, exB, exA, leLs, leL_d, leL_undef, leL_nils, leA_nils, deq_refl, deq_int, deq_bool, deq_str, and_true, true_and, AObj.iter.injEq, nc, nc']; try simp (disch := omega) only [w64, w32, wu8]); first | done | rfl | omega | (simp; done) | (simp; omega) | skip)
    obtain ⟨j1, j2⟩ := hj
    dsimp only at j1 j2
    have j3 := j2.1
    (cbv; try simp only [wp, (show ∀ n : Nat, _ = n from fun n => wf.2.2.2.2.2.2.2.2.2.2.2.2.2.1 (Int.ofNat n)), (show _ = (0 : Nat) from wf.2.2.2.2.2.2.2.2.2.2.2.2.2.1 0), wpa, (show ∀ n : Nat, _ = n from fun n => wfa.2.2.2.2.2.2.2.2.2.2.2.2.2.1 (Int.ofNat n)), (show _ = (0 : Nat) from wfa.2.2.2.2.2.2.2.2.2.2.2.2.2.1 0), wpb, (show ∀ n : Nat, _ = n from fun n => wfb.2.2.2.2.2.2.2.2.2.2.2.2.2.1 (Int.ofNat n)), (show _ = (0 : Nat) from wfb.2.2.2.2.2.2.2.2.2.2.2.2.2.1 0), getL, takeL, dropL, TK.isAgg, reduceIte])
    repeat' first | with_reducible refine And.intro ?_ ?_ | intro c9
    all_goals first
      | exact (by (try simp only [wf, wfa, wfb, nc, nc', Int.toNat_natCast, bsz, ByteArray.size_append, List.length_cons, List.length_nil] at *); (try simp (disch := omega) only [w64, w32, wu8] at *); first | done | omega)
      | trivial
      | skip
    · refine (sorted1 _ _ _ _).call ?_
      rintro _ ⟨z, hz, rfl⟩
      have hj0 : 0 < j := (by (try simp only [wf, wfa, wfb, nc, nc', Int.toNat_natCast, bsz, ByteArray.size_append, List.length_cons, List.length_nil] at *); (try simp (disch := omega) only [w64, w32, wu8] at *); first | done | omega)
      have hz : z < 0 ↔ V2 j < V2 (j - 1) := by
        ((try simp only [wf, wfa, wfb, nc, nc', Int.toNat_natCast, bsz, ByteArray.size_append, List.length_cons, List.length_nil] at *); (try simp (disch := omega) only [w64, w32, wu8] at *))
        rw [hz, show ((j : Int) - 1).toNat = j - 1 by omega]
        split
        · simp; omega
        · split <;> simp <;> omega
      (cbv; try simp only [wp, (show ∀ n : Nat, _ = n from fun n => wf.2.2.2.2.2.2.2.2.2.2.2.2.2.1 (Int.ofNat n)), (show _ = (0 : Nat) from wf.2.2.2.2.2.2.2.2.2.2.2.2.2.1 0), wpa, (show ∀ n : Nat, _ = n from fun n => wfa.2.2.2.2.2.2.2.2.2.2.2.2.2.1 (Int.ofNat n)), (show _ = (0 : Nat) from wfa.2.2.2.2.2.2.2.2.2.2.2.2.2.1 0), wpb, (show ∀ n : Nat, _ = n from fun n => wfb.2.2.2.2.2.2.2.2.2.2.2.2.2.1 (Int.ofNat n)), (show _ = (0 : Nat) from wfb.2.2.2.2.2.2.2.2.2.2.2.2.2.1 0), getL, takeL, dropL, TK.isAgg, reduceIte])
      refine ⟨fun e2 => ?_, fun e2 => ?_⟩
      · have e3 := hz.1 e2
        clear hz
        (refine Later.mk ?_; cbv; try simp only [wp, (show ∀ n : Nat, _ = n from fun n => wf.2.2.2.2.2.2.2.2.2.2.2.2.2.1 (Int.ofNat n)), (show _ = (0 : Nat) from wf.2.2.2.2.2.2.2.2.2.2.2.2.2.1 0), wpa, (show ∀ n : Nat, _ = n from fun n => wfa.2.2.2.2.2.2.2.2.2.2.2.2.2.1 (Int.ofNat n)), (show _ = (0 : Nat) from wfa.2.2.2.2.2.2.2.2.2.2.2.2.2.1 0), wpb, (show ∀ n : Nat, _ = n from fun n => wfb.2.2.2.2.2.2.2.2.2.2.2.2.2.1 (Int.ofNat n)), (show _ = (0 : Nat) from wfb.2.2.2.2.2.2.2.2.2.2.2.2.2.1 0), getL, takeL, dropL, TK.isAgg, reduceIte])
        repeat' first | with_reducible refine And.intro ?_ ?_ | intro c9
        all_goals first
          | exact (by (try simp only [wf, wfa, wfb, nc, nc', Int.toNat_natCast, bsz, ByteArray.size_append, List.length_cons, List.length_nil] at *); (try simp (disch := omega) only [w64, w32, wu8] at *); first | done | omega)
          | trivial
          | skip
        obtain ⟨k, hk⟩ : ∃ k, k = j - 1 := ⟨_, rfl⟩
        refine hBk2 ⟨k, swp V2 j, swp P2 j⟩ _ (by dsimp only; omega) ⟨(lst_swp V2 P2 hj0 (by omega)).trans j1, by dsimp only; rw [hk]; exact upBut_step j2 hj0 e3⟩ ?_
        (cbv; try simp only [wf, wfa, wfb, exD, exL, exT, exB, exA, leLs, leL_d, leL_undef, leL_nils, leA_nils, deq_refl, deq_int, deq_bool, deq_str, and_true, true_and, AObj.iter.injEq, nc, nc']; try simp (disch := omega) only [w64, w32, wu8])
        rw [show ((j : Int) - 1).toNat = k by omega]
        refine ⟨by omega, Nat.le_refl _, Nat.zero_le _, fun x y h1 h2 => .of_eq ?_⟩
        exact swp_upd V2 P2 hj0 hk x y h2
      · have e3 := mt hz.2 (by omega)
        clear hz
        (refine Later.mk ?_; cbv; try simp only [wp, (show ∀ n : Nat, _ = n from fun n => wf.2.2.2.2.2.2.2.2.2.2.2.2.2.1 (Int.ofNat n)), (show _ = (0 : Nat) from wf.2.2.2.2.2.2.2.2.2.2.2.2.2.1 0), wpa, (show ∀ n : Nat, _ = n from fun n => wfa.2.2.2.2.2.2.2.2.2.2.2.2.2.1 (Int.ofNat n)), (show _ = (0 : Nat) from wfa.2.2.2.2.2.2.2.2.2.2.2.2.2.1 0), wpb, (show ∀ n : Nat, _ = n from fun n => wfb.2.2.2.2.2.2.2.2.2.2.2.2.2.1 (Int.ofNat n)), (show _ = (0 : Nat) from wfb.2.2.2.2.2.2.2.2.2.2.2.2.2.1 0), getL, takeL, dropL, TK.isAgg, reduceIte])
        refine hBk ⟨i + 1, V2, P2⟩ _ (by dsimp only; omega) ⟨by dsimp only; omega, .inl (by dsimp only; omega), j1, upBut_end j2 (.inr (by dsimp only; omega))⟩ ?_
        ((cbv; try simp only [wf, wfa, wfb, exD, exL, exT, exB, exA, leLs, leL_d, leL_undef, leL_nils, leA_nils, deq_refl, deq_int, deq_bool, deq_str, and_true, true_and, AObj.iter.injEq, nc, nc']; try simp (disch := omega) only [w64, w32, wu8]); first | done | rfl | omega | (simp; done) | (simp; omega) | skip)
    · have e2 : j = 0 := (by (try simp only [wf, wfa, wfb, nc, nc', Int.toNat_natCast, bsz, ByteArray.size_append, List.length_cons, List.length_nil] at *); (try simp (disch := omega) only [w64, w32, wu8] at *); first | done | omega)
      subst e2
      (refine Later.mk ?_; cbv; try simp only [wp, (show ∀ n : Nat, _ = n from fun n => wf.2.2.2.2.2.2.2.2.2.2.2.2.2.1 (Int.ofNat n)), (show _ = (0 : Nat) from wf.2.2.2.2.2.2.2.2.2.2.2.2.2.1 0), wpa, (show ∀ n : Nat, _ = n from fun n => wfa.2.2.2.2.2.2.2.2.2.2.2.2.2.1 (Int.ofNat n)), (show _ = (0 : Nat) from wfa.2.2.2.2.2.2.2.2.2.2.2.2.2.1 0), wpb, (show ∀ n : Nat, _ = n from fun n => wfb.2.2.2.2.2.2.2.2.2.2.2.2.2.1 (Int.ofNat n)), (show _ = (0 : Nat) from wfb.2.2.2.2.2.2.2.2.2.2.2.2.2.1 0), getL, takeL, dropL, TK.isAgg, reduceIte])
      refine hBk ⟨i + 1, V2, P2⟩ _ (by dsimp only; omega) ⟨by dsimp only; omega, .inl (by dsimp only; omega), j1, upBut_end j2 (.inl rfl)⟩ ?_
      ((cbv; try simp only [wf, wfa, wfb, exD, exL, exT, exB, exA, leLs, leL_d, leL_undef, leL_nils, leA_nils, deq_refl, deq_int, deq_bool, deq_str, and_true, true_and, AObj.iter.injEq, nc, nc']; try simp (disch := omega) only [w64, w32, wu8]); first | done | rfl | omega | (simp; done) | (simp; omega) | skip)
  · have e : n ≤ i := (by (try simp only [wf, wfa, nc, nc', Int.toNat_natCast, bsz, ByteArray.size_append, List.length_cons, List.length_nil] at *); (try simp (disch := omega) only [w64, w32, wu8] at *); first | done | omega)
    (refine Later.mk ?_; cbv; try simp only [wp, (show ∀ n : Nat, _ = n from fun n => wf.2.2.2.2.2.2.2.2.2.2.2.2.2.1 (Int.ofNat n)), (show _ = (0 : Nat) from wf.2.2.2.2.2.2.2.2.2.2.2.2.2.1 0), wpa, (show ∀ n : Nat, _ = n from fun n => wfa.2.2.2.2.2.2.2.2.2.2.2.2.2.1 (Int.ofNat n)), (show _ = (0 : Nat) from wfa.2.2.2.2.2.2.2.2.2.2.2.2.2.1 0), getL, takeL, dropL, TK.isAgg, reduceIte])
    exact hR _ _ ⟨rfl, V1, P1, i3, fun k l h1 h2 => i4 k l h1 (by omega), rfl⟩
end Go.VM

namespace Go.VM
open Go.Proofs Go
set_option maxRecDepth 100000
set_option linter.unusedVariables false
set_option linter.unusedSimpArgs false
theorem wu64 {x : Int} (h1 : 0 ≤ x) (h2 : x ≤ 18446744073709551615) : IntKind.u64.wrap x = x := by
  simp only [IntKind.wrap, IntKind.bits, IntKind.signed]
  simp
  omega
theorem pdq8 (n : Nat) (z : Int) (V P0 : Nat → Int) (hn : n ≤ 8) : VCalls (P ()) 65 [.ref 0 0 n 2, .d (.int .i64 0), .d (.int .i64 n), .d (.int .i64 z), .clo 58 [] []] [.arr n 2 (lvF V P0) 0]
    (fun r H => r = .tup [] ∧ ∃ V' P', (lst V' P' n).Perm (lst V P0 n) ∧ upTo V' n ∧ H = [.arr n 2 (lvF V' P') 0]) := by
  refine VCalls_of_Wo (Tf := @T) @tabOk [(17, upF 0 17)] 400 Tryd.func65 rfl (fun {_} => by kernel_rfl) (Nat.le_of_ble_eq_true rfl) @fun ⟨_, _, _, _, _, _, _, _, _, _, _, _, _, _, _, _, _, _, _, _, _, _, _, _, _, _, _, _, _, _, _, _, _, _, _, _, _, _, wp, wf⟩ nH R hnH hR => ?_
  subst hnH
  cbv
  try simp only [wp, (show ∀ n : Nat, _ = n from fun n => wf.2.2.2.2.2.2.2.2.2.2.2.2.2.1 (Int.ofNat n)), getL, takeL, dropL, TK.isAgg, reduceIte]
  refine loopO (Tf := @T) @tabOk [(17, upF 0 17)] 400 (fun y : Unit => ⟨[.ref 0 0 n 2, .d (.int .i64 0), .d (.int .i64 n), .d (.int .i64 z), .clo 58 [] [], .undef, .undef, .undef, .undef, .undef, .d (.bool true), .d (.bool true), .undef, .undef, .undef, .undef, .undef, .undef, .undef, .undef, .undef, .undef, .undef, .undef, .undef, .undef, .undef, .undef, .undef, .undef, .undef, .undef, .undef, .undef, .undef, .undef, .undef, .undef, .undef, .undef, .undef, .undef, .undef, .undef, .undef, .undef, .undef, .undef, .undef, .undef, .undef, .undef, .undef, .undef, .undef, .undef, .undef, .undef, .undef, .undef, .undef, .undef, .undef, .undef, .undef, .undef, .undef, .undef, .undef, .undef, .undef, .undef, .undef, .undef, .undef, .undef, .undef, .undef, .undef, .undef, .undef, .undef, .undef, .undef, .undef, .undef, .undef, .undef, .undef, .undef, .undef, .undef, .undef, .undef, .undef, .undef, .undef, .undef, .undef, .undef, .undef, .undef, .undef, .undef, .undef, .undef, .undef, .undef, .undef, .undef, .undef, .undef, .undef, .undef, .undef, .undef, .undef, .undef, .undef, .undef, .undef, .undef, .undef, .undef, .undef, .undef, .undef, .undef, .undef, .undef, .undef, .undef, .undef, .undef, .undef, .undef, .undef, .undef, .undef, .undef, .undef, .undef, .undef, .undef, .undef, .undef, .undef, .undef], [.arr n 2 (lvF V P0) 0]⟩) (fun y => 0) (fun y => True) () trivial (fun {_} => by kernel_rfl) ?_ (fun i => by kernel_rfl) @fun ⟨_, _, _, _, _, _, _, _, _, _, _, _, _, _, _, _, _, _, _, _, _, _, _, _, _, _, _, _, _, _, _, _, _, _, _, _, _, _, wpa, wfa⟩ _ Bk hi hBk => ?_
  · ((cbv; try simp only [wf, exD, exL, exT, exB, exA, leLs, leL_d, leL_undef, leL_nils, leA_nils, deq_refl, deq_int, deq_bool, deq_str, and_true, true_and, AObj.iter.injEq, nc, nc']; try simp (disch := omega) only [w64, w32, wu8]); first | done | rfl | omega | (simp; done) | (simp; omega) | skip)
  (cbv; try simp only [wp, (show ∀ n : Nat, _ = n from fun n => wf.2.2.2.2.2.2.2.2.2.2.2.2.2.1 (Int.ofNat n)), (show _ = (0 : Nat) from wf.2.2.2.2.2.2.2.2.2.2.2.2.2.1 0), wpa, (show ∀ n : Nat, _ = n from fun n => wfa.2.2.2.2.2.2.2.2.2.2.2.2.2.1 (Int.ofNat n)), (show _ = (0 : Nat) from wfa.2.2.2.2.2.2.2.2.2.2.2.2.2.1 0), getL, takeL, dropL, TK.isAgg, reduceIte])
  refine ⟨fun e => ?_, fun e => ?_⟩
  · (refine Later.mk ?_; cbv; try simp only [wp, (show ∀ n : Nat, _ = n from fun n => wf.2.2.2.2.2.2.2.2.2.2.2.2.2.1 (Int.ofNat n)), (show _ = (0 : Nat) from wf.2.2.2.2.2.2.2.2.2.2.2.2.2.1 0), wpa, (show ∀ n : Nat, _ = n from fun n => wfa.2.2.2.2.2.2.2.2.2.2.2.2.2.1 (Int.ofNat n)), (show _ = (0 : Nat) from wfa.2.2.2.2.2.2.2.2.2.2.2.2.2.1 0), getL, takeL, dropL, TK.isAgg, reduceIte])
    refine CallW.within (insSort n V P0 hn) [0] (by ((try simp only [wf, nc, nc', Int.toNat_natCast, bsz, ByteArray.size_append, List.length_cons, List.length_nil] at *); (try simp (disch := omega) only [w64, w32, wu8] at *)); rfl) ⟨rfl, trivial⟩ rfl ?_
    rintro _ _ ⟨rfl, V', P', h1, h2, rfl⟩
    refine ⟨[.arr n 2 (lvF V' P') 0], [], rfl, Nat.le_refl _, ⟨Nat.zero_le _, trivial⟩, rfl, ?_⟩
    (cbv; try simp only [wp, (show ∀ n : Nat, _ = n from fun n => wf.2.2.2.2.2.2.2.2.2.2.2.2.2.1 (Int.ofNat n)), (show _ = (0 : Nat) from wf.2.2.2.2.2.2.2.2.2.2.2.2.2.1 0), wpa, (show ∀ n : Nat, _ = n from fun n => wfa.2.2.2.2.2.2.2.2.2.2.2.2.2.1 (Int.ofNat n)), (show _ = (0 : Nat) from wfa.2.2.2.2.2.2.2.2.2.2.2.2.2.1 0), getL, takeL, dropL, TK.isAgg, reduceIte])
    exact hR _ _ ⟨rfl, V', P', h1, h2, rfl⟩
  · exact absurd e (by (try simp only [wf, wfa, nc, nc', Int.toNat_natCast, bsz, ByteArray.size_append, List.length_cons, List.length_nil] at *); (try simp (disch := omega) only [w64, w32, wu8] at *); first | done | omega)
theorem bLen64 (x : Int) (h : 0 ≤ x) (h2 : x < 256) : VFun (P ()) 76 [.d (.int .u64 x)] (fun r => ∃ z : Int, r = .d (.int .i64 z)) := by
  refine vfunO (Tf := @T) @tabOk [] 400 Tryd.func76 rfl (fun {_} => by kernel_rfl) rfl (Nat.le_of_ble_eq_true rfl) @fun ⟨_, _, _, _, _, _, _, _, _, _, _, _, _, _, _, _, _, _, _, _, _, _, _, _, _, _, _, _, _, _, _, _, _, _, _, _, _, _, wp, wf⟩ R hR => ?_
  cbv
  try simp only [wp, (show ∀ n : Nat, _ = n from fun n => wf.2.2.2.2.2.2.2.2.2.2.2.2.2.1 (Int.ofNat n)), getL, takeL, dropL, TK.isAgg, reduceIte]
  replace hR := fun z H => hR (.d (.int .i64 z)) H _ (.d (.int .i64 z)) ⟨z, rfl⟩
  repeat' first | with_reducible refine And.intro ?_ ?_ | intro c9
  · exact absurd c9 (by omega)
  · (refine Later.mk ?_; cbv; try simp only [wp, (show ∀ n : Nat, _ = n from fun n => wf.2.2.2.2.2.2.2.2.2.2.2.2.2.1 (Int.ofNat n)), (show _ = (0 : Nat) from wf.2.2.2.2.2.2.2.2.2.2.2.2.2.1 0), getL, takeL, dropL, TK.isAgg, reduceIte])
    repeat' first | with_reducible refine And.intro ?_ ?_ | intro c9
    · exact absurd c9 (by omega)
    · (refine Later.mk ?_; cbv; try simp only [wp, (show ∀ n : Nat, _ = n from fun n => wf.2.2.2.2.2.2.2.2.2.2.2.2.2.1 (Int.ofNat n)), (show _ = (0 : Nat) from wf.2.2.2.2.2.2.2.2.2.2.2.2.2.1 0), getL, takeL, dropL, TK.isAgg, reduceIte])
      repeat' first | with_reducible refine And.intro ?_ ?_ | intro c9
      · exact absurd c9 (by omega)
      · (refine Later.mk ?_; cbv; try simp only [wp, (show ∀ n : Nat, _ = n from fun n => wf.2.2.2.2.2.2.2.2.2.2.2.2.2.1 (Int.ofNat n)), (show _ = (0 : Nat) from wf.2.2.2.2.2.2.2.2.2.2.2.2.2.1 0), getL, takeL, dropL, TK.isAgg, reduceIte])
        refine ⟨(by (try simp only [wf, nc, nc', Int.toNat_natCast, bsz, ByteArray.size_append, List.length_cons, List.length_nil] at *); (try simp (disch := omega) only [w64, w32, wu8] at *); first | done | omega), ?_, hR _ _⟩
        ((try simp only [wf, nc, nc', Int.toNat_natCast, bsz, ByteArray.size_append, List.length_cons, List.length_nil] at *); (try simp (disch := omega) only [w64, w32, wu8] at *))
        exact Int.lt_of_lt_of_le h2 (by decide)
theorem bLen (x : Int) (h : 0 ≤ x) (h2 : x < 256) : VFun (P ()) 60 [.d (.int .u64 x)] (fun r => ∃ z : Int, r = .d (.int .i64 z)) := by
  refine vfunO (Tf := @T) @tabOk [] 400 Tryd.func60 rfl (fun {_} => by kernel_rfl) rfl (Nat.le_of_ble_eq_true rfl) @fun ⟨_, _, _, _, _, _, _, _, _, _, _, _, _, _, _, _, _, _, _, _, _, _, _, _, _, _, _, _, _, _, _, _, _, _, _, _, _, _, wp, wf⟩ R hR => ?_
  cbv
  try simp only [wp, (show ∀ n : Nat, _ = n from fun n => wf.2.2.2.2.2.2.2.2.2.2.2.2.2.1 (Int.ofNat n)), getL, takeL, dropL, TK.isAgg, reduceIte]
  replace hR := fun z H => hR (.d (.int .i64 z)) H _ (.d (.int .i64 z)) ⟨z, rfl⟩
  (refine Later.mk ?_; cbv; try simp only [wp, (show ∀ n : Nat, _ = n from fun n => wf.2.2.2.2.2.2.2.2.2.2.2.2.2.1 (Int.ofNat n)), (show _ = (0 : Nat) from wf.2.2.2.2.2.2.2.2.2.2.2.2.2.1 0), getL, takeL, dropL, TK.isAgg, reduceIte])
  refine (bLen64 _ (by ((try simp only [wf, nc, nc', Int.toNat_natCast, bsz, ByteArray.size_append, List.length_cons, List.length_nil] at *); (try simp (disch := omega) only [w64, w32, wu8] at *)); omega) (by ((try simp only [wf, nc, nc', Int.toNat_natCast, bsz, ByteArray.size_append, List.length_cons, List.length_nil] at *); (try simp (disch := omega) only [w64, w32, wu8] at *)); omega)).call ?_
  rintro _ ⟨z, rfl⟩
  (cbv; try simp only [wp, (show ∀ n : Nat, _ = n from fun n => wf.2.2.2.2.2.2.2.2.2.2.2.2.2.1 (Int.ofNat n)), (show _ = (0 : Nat) from wf.2.2.2.2.2.2.2.2.2.2.2.2.2.1 0), getL, takeL, dropL, TK.isAgg, reduceIte])
  exact hR _ _
theorem SortF (n : Nat) (V P0 : Nat → Int) (hn : n ≤ 8) : VCalls (P ()) 57 [.ref 0 0 n 2, .clo 58 [] []] [.arr n 2 (lvF V P0) 0]
    (fun r H => r = .tup [] ∧ ∃ V' P', (lst V' P' n).Perm (lst V P0 n) ∧ upTo V' n ∧ H = [.arr n 2 (lvF V' P') 0]) := by
  refine VCalls_of_Wo (Tf := @T) @tabOk [] 400 Tryd.func57 rfl (fun {_} => by kernel_rfl) (Nat.le_of_ble_eq_true rfl) @fun ⟨_, _, _, _, _, _, _, _, _, _, _, _, _, _, _, _, _, _, _, _, _, _, _, _, _, _, _, _, _, _, _, _, _, _, _, _, _, _, wp, wf⟩ nH R hnH hR => ?_
  subst hnH
  cbv
  try simp only [wp, (show ∀ n : Nat, _ = n from fun n => wf.2.2.2.2.2.2.2.2.2.2.2.2.2.1 (Int.ofNat n)), getL, takeL, dropL, TK.isAgg, reduceIte]
  refine (bLen _ ?_ ?_).call ?_
  · ((try simp only [wf, nc, nc', Int.toNat_natCast, bsz, ByteArray.size_append, List.length_cons, List.length_nil] at *); (try simp (disch := omega) only [w64, w32, wu8] at *))
    rw [wu64 (by omega) (by omega)]; omega
  · ((try simp only [wf, nc, nc', Int.toNat_natCast, bsz, ByteArray.size_append, List.length_cons, List.length_nil] at *); (try simp (disch := omega) only [w64, w32, wu8] at *))
    rw [wu64 (by omega) (by omega)]; omega
  rintro _ ⟨z, rfl⟩
  (cbv; try simp only [wp, (show ∀ n : Nat, _ = n from fun n => wf.2.2.2.2.2.2.2.2.2.2.2.2.2.1 (Int.ofNat n)), (show _ = (0 : Nat) from wf.2.2.2.2.2.2.2.2.2.2.2.2.2.1 0), getL, takeL, dropL, TK.isAgg, reduceIte])
  refine CallW.within (pdq8 n _ V P0 hn) [0] (by ((try simp only [wf, nc, nc', Int.toNat_natCast, bsz, ByteArray.size_append, List.length_cons, List.length_nil] at *); (try simp (disch := omega) only [w64, w32, wu8] at *)); rfl) ⟨rfl, trivial⟩ rfl ?_
  rintro _ _ ⟨rfl, V', P', h1, h2, rfl⟩
  refine ⟨[.arr n 2 (lvF V' P') 0], [], rfl, Nat.le_refl _, ⟨Nat.zero_le _, trivial⟩, rfl, ?_⟩
  (cbv; try simp only [wp, (show ∀ n : Nat, _ = n from fun n => wf.2.2.2.2.2.2.2.2.2.2.2.2.2.1 (Int.ofNat n)), (show _ = (0 : Nat) from wf.2.2.2.2.2.2.2.2.2.2.2.2.2.1 0), getL, takeL, dropL, TK.isAgg, reduceIte])
  exact hR _ _ ⟨rfl, V', P', h1, h2, rfl⟩
end Go.VM
