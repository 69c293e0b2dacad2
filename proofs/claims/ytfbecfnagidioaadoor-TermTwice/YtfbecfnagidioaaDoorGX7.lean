/- Part of the proof: TermT, M10, M11, MT1, MT2, LLT, MT3, MT4, TP3, TP4, LLJ, TT1. -/
import Derived.Test.YtfbecfnagidioaaDoorProg
import Derived.Lib.ItoaNum
import Derived.Test.YtfbecfnagidioaaDoorRows
import Derived.Lib.LaidTab
import Derived.Deep.DeepHandedRow
import Derived.Test.YtfbecfnagidioaaDoorGV4
import Derived.Test.YtfbecfnagidioaaDoorGV5
/- The seat's types, as the logic of abstract states reads them. -/

set_option maxRecDepth 100000
namespace Go.VM
def tbl : Tables where
  n := 164
  m := 177
  bare := [0, 1, 120, 154, 155, 156, 157, 158, 159, 160, 161, 162, 163, 164, 165, 166, 167, 168, 169, 170, 171, 172, 173, 174, 175]
  eqs := [(65, [.str, .int, .int]), (92, [.int, .int])]
  bld := 80
  tree := (.node (.node (.node (.node (.node (.node (.node .nil
 (some ⟨.func, 1, 8, [.d .nilf]⟩) .nil)
 (some ⟨.func, 1, 8, [.d .nilf]⟩) (.node (.node .nil
 (some ⟨.func, 1, 8, [.d .nilf]⟩) .nil)
 none .nil))
 (some ⟨(.pointer 153), 1, 8, [.d .nilp]⟩) (.node (.node (.node .nil
 (some ⟨.func, 1, 8, [.d .nilf]⟩) .nil)
 (some ⟨(.struct [(0, 77), (1, 78)]), 2, 32, [.d .nilp, .nils]⟩) .nil)
 none (.node .nil
 (some ⟨.func, 1, 8, [.d .nilf]⟩) .nil)))
 (some ⟨(.struct [(0, 2), (1, 3), (2, 4), (3, 6)]), 4, 24, [.d (.int .i64 (0)), .d (.int .i64 (0)), .d (.bool false), .d (.int .u8 (0))]⟩) (.node (.node (.node .nil
 (some ⟨(.struct [(0, 3), (1, 70)]), 2, 32, [.d (.int .i64 (0)), .nils]⟩) .nil)
 (some ⟨.func, 1, 8, [.d .nilf]⟩) (.node .nil
 (some ⟨.func, 1, 8, [.d .nilf]⟩) .nil))
 (some ⟨(.slice 25), 1, 24, [.nils]⟩) (.node (.node (.node .nil
 (some ⟨(.array 64 5), 64, 64, [.d (.int .u8 (0)), .d (.int .u8 (0)), .d (.int .u8 (0)), .d (.int .u8 (0)), .d (.int .u8 (0)), .d (.int .u8 (0)), .d (.int .u8 (0)), .d (.int .u8 (0)), .d (.int .u8 (0)), .d (.int .u8 (0)), .d (.int .u8 (0)), .d (.int .u8 (0)), .d (.int .u8 (0)), .d (.int .u8 (0)), .d (.int .u8 (0)), .d (.int .u8 (0)), .d (.int .u8 (0)), .d (.int .u8 (0)), .d (.int .u8 (0)), .d (.int .u8 (0)), .d (.int .u8 (0)), .d (.int .u8 (0)), .d (.int .u8 (0)), .d (.int .u8 (0)), .d (.int .u8 (0)), .d (.int .u8 (0)), .d (.int .u8 (0)), .d (.int .u8 (0)), .d (.int .u8 (0)), .d (.int .u8 (0)), .d (.int .u8 (0)), .d (.int .u8 (0)), .d (.int .u8 (0)), .d (.int .u8 (0)), .d (.int .u8 (0)), .d (.int .u8 (0)), .d (.int .u8 (0)), .d (.int .u8 (0)), .d (.int .u8 (0)), .d (.int .u8 (0)), .d (.int .u8 (0)), .d (.int .u8 (0)), .d (.int .u8 (0)), .d (.int .u8 (0)), .d (.int .u8 (0)), .d (.int .u8 (0)), .d (.int .u8 (0)), .d (.int .u8 (0)), .d (.int .u8 (0)), .d (.int .u8 (0)), .d (.int .u8 (0)), .d (.int .u8 (0)), .d (.int .u8 (0)), .d (.int .u8 (0)), .d (.int .u8 (0)), .d (.int .u8 (0)), .d (.int .u8 (0)), .d (.int .u8 (0)), .d (.int .u8 (0)), .d (.int .u8 (0)), .d (.int .u8 (0)), .d (.int .u8 (0)), .d (.int .u8 (0)), .d (.int .u8 (0))]⟩) .nil)
 (some ⟨.func, 1, 8, [.d .nilf]⟩) .nil)
 (some ⟨.func, 1, 8, [.d .nilf]⟩) (.node .nil
 (some ⟨.func, 1, 8, [.d .nilf]⟩) .nil))))
 (some ⟨(.int .i64), 1, 8, [.d (.int .i64 (0))]⟩) (.node (.node (.node (.node .nil
 (some ⟨.func, 1, 8, [.d .nilf]⟩) .nil)
 (some ⟨.func, 1, 8, [.d .nilf]⟩) (.node (.node .nil
 (some ⟨(.struct [(0, 12), (1, 12), (2, 138), (3, 157), (4, 5), (5, 5), (6, 158), (7, 159), (8, 101), (9, 160), (10, 161)]), 11, 48, [.d (.int .u64 (0)), .d (.int .u64 (0)), .d (.int .u32 (0)), .d (.int .u8 (0)), .d (.int .u8 (0)), .d (.int .u8 (0)), .d (.int .u8 (0)), .d .nilf, .d .nilp, .d (.int .i32 (0)), .d (.int .i32 (0))]⟩) .nil)
 (some ⟨.func, 1, 8, [.d .nilf]⟩) .nil))
 (some ⟨(.struct [(0, 17)]), 1, 8, [.d .nilp]⟩) (.node (.node (.node .nil
 (some ⟨.func, 1, 8, [.d .nilf]⟩) .nil)
 (some ⟨.func, 1, 8, [.d .nilf]⟩) .nil)
 (some ⟨.func, 1, 8, [.d .nilf]⟩) (.node .nil
 (some ⟨.func, 1, 8, [.d .nilf]⟩) .nil)))
 (some ⟨.string, 1, 16, [.d (.str ⟨#[]⟩)]⟩) (.node (.node (.node (.node .nil
 (some ⟨.func, 1, 8, [.d .nilf]⟩) .nil)
 (some ⟨.func, 1, 8, [.d .nilf]⟩) .nil)
 (some ⟨.func, 1, 8, [.d .nilf]⟩) (.node .nil
 (some ⟨(.slice 9), 1, 24, [.nils]⟩) .nil))
 none (.node (.node (.node .nil
 (some ⟨(.struct [(0, 154)]), 0, 0, []⟩) .nil)
 (some ⟨(.struct [(0, 3), (1, 3)]), 2, 16, [.d (.int .i64 (0)), .d (.int .i64 (0))]⟩) .nil)
 (some ⟨.func, 1, 8, [.d .nilf]⟩) (.node .nil
 (some ⟨(.array 24 5), 24, 24, [.d (.int .u8 (0)), .d (.int .u8 (0)), .d (.int .u8 (0)), .d (.int .u8 (0)), .d (.int .u8 (0)), .d (.int .u8 (0)), .d (.int .u8 (0)), .d (.int .u8 (0)), .d (.int .u8 (0)), .d (.int .u8 (0)), .d (.int .u8 (0)), .d (.int .u8 (0)), .d (.int .u8 (0)), .d (.int .u8 (0)), .d (.int .u8 (0)), .d (.int .u8 (0)), .d (.int .u8 (0)), .d (.int .u8 (0)), .d (.int .u8 (0)), .d (.int .u8 (0)), .d (.int .u8 (0)), .d (.int .u8 (0)), .d (.int .u8 (0)), .d (.int .u8 (0))]⟩) .nil)))))
 (some ⟨.func, 1, 8, [.d .nilf]⟩) (.node (.node (.node (.node (.node (.node .nil
 (some ⟨.func, 1, 8, [.d .nilf]⟩) .nil)
 (some ⟨(.struct [(0, 9), (1, 3), (2, 3)]), 3, 32, [.d (.str ⟨#[]⟩), .d (.int .i64 (0)), .d (.int .i64 (0))]⟩) .nil)
 none (.node (.node .nil
 (some ⟨(.int .i32), 1, 4, [.d (.int .i32 (0))]⟩) .nil)
 (some ⟨.func, 1, 8, [.d .nilf]⟩) .nil))
 (some ⟨(.pointer 163), 1, 8, [.d .nilp]⟩) (.node (.node (.node .nil
 (some ⟨.func, 1, 8, [.d .nilf]⟩) .nil)
 (some ⟨.func, 1, 8, [.d .nilf]⟩) .nil)
 none (.node .nil
 (some ⟨.func, 1, 8, [.d .nilf]⟩) .nil)))
 (some ⟨.string, 1, 16, [.d (.str ⟨#[]⟩)]⟩) (.node (.node (.node (.node .nil
 (some ⟨.func, 1, 8, [.d .nilf]⟩) .nil)
 (some ⟨.func, 1, 8, [.d .nilf]⟩) .nil)
 (some ⟨(.struct [(0, 23), (1, 23)]), 2, 48, [.nils, .nils]⟩) (.node .nil
 (some ⟨.func, 1, 8, [.d .nilf]⟩) .nil))
 (some ⟨(.struct [(0, 3), (1, 3), (2, 9), (3, 22), (4, 23)]), 5, 80, [.d (.int .i64 (0)), .d (.int .i64 (0)), .d (.str ⟨#[]⟩), .nils, .nils]⟩) (.node (.node (.node .nil
 (some ⟨(.struct [(0, 17), (1, 17), (2, 17), (3, 9)]), 4, 40, [.d .nilp, .d .nilp, .d .nilp, .d (.str ⟨#[]⟩)]⟩) .nil)
 (some ⟨.func, 1, 8, [.d .nilf]⟩) .nil)
 (some ⟨.func, 1, 8, [.d .nilf]⟩) (.node .nil
 (some ⟨.func, 1, 8, [.d .nilf]⟩) .nil))))
 (some ⟨(.int .u8), 1, 1, [.d (.int .u8 (0))]⟩) (.node (.node (.node (.node (.node .nil
 (some ⟨.func, 1, 8, [.d .nilf]⟩) .nil)
 (some ⟨.func, 1, 8, [.d .nilf]⟩) .nil)
 (some ⟨.func, 1, 8, [.d .nilf]⟩) (.node .nil
 (some ⟨(.pointer 5), 1, 8, [.d .nilp]⟩) .nil))
 (some ⟨(.int .i32), 1, 4, [.d (.int .i32 (0))]⟩) (.node (.node (.node .nil
 (some ⟨.func, 1, 8, [.d .nilf]⟩) .nil)
 (some ⟨.func, 1, 8, [.d .nilf]⟩) .nil)
 (some ⟨.func, 1, 8, [.d .nilf]⟩) (.node .nil
 (some ⟨.func, 1, 8, [.d .nilf]⟩) .nil)))
 (some ⟨(.struct [(0, 9), (1, 12)]), 2, 24, [.d (.str ⟨#[]⟩), .d (.int .u64 (0))]⟩) (.node (.node (.node (.node .nil
 (some ⟨(.array 65 5), 65, 65, [.d (.int .u8 (0)), .d (.int .u8 (0)), .d (.int .u8 (0)), .d (.int .u8 (0)), .d (.int .u8 (0)), .d (.int .u8 (0)), .d (.int .u8 (0)), .d (.int .u8 (0)), .d (.int .u8 (0)), .d (.int .u8 (0)), .d (.int .u8 (0)), .d (.int .u8 (0)), .d (.int .u8 (0)), .d (.int .u8 (0)), .d (.int .u8 (0)), .d (.int .u8 (0)), .d (.int .u8 (0)), .d (.int .u8 (0)), .d (.int .u8 (0)), .d (.int .u8 (0)), .d (.int .u8 (0)), .d (.int .u8 (0)), .d (.int .u8 (0)), .d (.int .u8 (0)), .d (.int .u8 (0)), .d (.int .u8 (0)), .d (.int .u8 (0)), .d (.int .u8 (0)), .d (.int .u8 (0)), .d (.int .u8 (0)), .d (.int .u8 (0)), .d (.int .u8 (0)), .d (.int .u8 (0)), .d (.int .u8 (0)), .d (.int .u8 (0)), .d (.int .u8 (0)), .d (.int .u8 (0)), .d (.int .u8 (0)), .d (.int .u8 (0)), .d (.int .u8 (0)), .d (.int .u8 (0)), .d (.int .u8 (0)), .d (.int .u8 (0)), .d (.int .u8 (0)), .d (.int .u8 (0)), .d (.int .u8 (0)), .d (.int .u8 (0)), .d (.int .u8 (0)), .d (.int .u8 (0)), .d (.int .u8 (0)), .d (.int .u8 (0)), .d (.int .u8 (0)), .d (.int .u8 (0)), .d (.int .u8 (0)), .d (.int .u8 (0)), .d (.int .u8 (0)), .d (.int .u8 (0)), .d (.int .u8 (0)), .d (.int .u8 (0)), .d (.int .u8 (0)), .d (.int .u8 (0)), .d (.int .u8 (0)), .d (.int .u8 (0)), .d (.int .u8 (0)), .d (.int .u8 (0))]⟩) .nil)
 (some ⟨(.pointer 80), 1, 8, [.d .nilp]⟩) .nil)
 (some ⟨(.slice 3), 1, 24, [.nils]⟩) (.node .nil
 (some ⟨.func, 1, 8, [.d .nilf]⟩) .nil))
 (some ⟨.func, 1, 8, [.d .nilf]⟩) (.node (.node (.node .nil
 (some ⟨(.int .u8), 1, 1, [.d (.int .u8 (0))]⟩) .nil)
 none .nil)
 (some ⟨.func, 1, 8, [.d .nilf]⟩) (.node .nil
 (some ⟨.func, 1, 8, [.d .nilf]⟩) .nil))))))
 none (.node (.node (.node (.node (.node (.node (.node .nil
 (some ⟨.func, 1, 8, [.d .nilf]⟩) .nil)
 (some ⟨(.struct [(0, 9), (1, 3), (2, 3)]), 3, 32, [.d (.str ⟨#[]⟩), .d (.int .i64 (0)), .d (.int .i64 (0))]⟩) .nil)
 (some ⟨.func, 1, 8, [.d .nilf]⟩) (.node (.node .nil
 (some ⟨(.int .i32), 1, 4, [.d (.int .i32 (0))]⟩) .nil)
 (some ⟨.func, 1, 8, [.d .nilf]⟩) .nil))
 (some ⟨(.pointer 156), 1, 8, [.d .nilp]⟩) (.node (.node (.node .nil
 (some ⟨.func, 1, 8, [.d .nilf]⟩) .nil)
 (some ⟨(.struct [(0, 77), (1, 78)]), 2, 32, [.d .nilp, .nils]⟩) .nil)
 (some ⟨.func, 1, 8, [.d .nilf]⟩) (.node .nil
 (some ⟨.func, 1, 8, [.d .nilf]⟩) .nil)))
 (some ⟨(.struct [(0, 2), (1, 3), (2, 4), (3, 6)]), 4, 24, [.d (.int .i64 (0)), .d (.int .i64 (0)), .d (.bool false), .d (.int .u8 (0))]⟩) (.node (.node (.node (.node .nil
 (some ⟨.func, 1, 8, [.d .nilf]⟩) .nil)
 (some ⟨(.struct [(0, 3), (1, 70)]), 2, 32, [.d (.int .i64 (0)), .nils]⟩) .nil)
 (some ⟨.func, 1, 8, [.d .nilf]⟩) (.node .nil
 (some ⟨(.slice 92), 1, 24, [.nils]⟩) .nil))
 (some ⟨(.struct [(0, 3), (1, 3), (2, 9), (3, 22), (4, 23)]), 5, 80, [.d (.int .i64 (0)), .d (.int .i64 (0)), .d (.str ⟨#[]⟩), .nils, .nils]⟩) (.node (.node (.node .nil
 (some ⟨(.struct [(0, 17), (1, 17), (2, 17), (3, 9)]), 4, 40, [.d .nilp, .d .nilp, .d .nilp, .d (.str ⟨#[]⟩)]⟩) .nil)
 none .nil)
 (some ⟨.func, 1, 8, [.d .nilf]⟩) (.node .nil
 (some ⟨.func, 1, 8, [.d .nilf]⟩) .nil))))
 (some ⟨.bool, 1, 1, [.d (.bool false)]⟩) (.node (.node (.node (.node (.node .nil
 (some ⟨.func, 1, 8, [.d .nilf]⟩) .nil)
 (some ⟨.func, 1, 8, [.d .nilf]⟩) .nil)
 (some ⟨(.int .u16), 1, 2, [.d (.int .u16 (0))]⟩) (.node .nil
 (some ⟨.func, 1, 8, [.d .nilf]⟩) .nil))
 none (.node (.node (.node .nil
 (some ⟨(.pointer 142), 1, 8, [.d .nilp]⟩) .nil)
 (some ⟨.func, 1, 8, [.d .nilf]⟩) .nil)
 (some ⟨.func, 1, 8, [.d .nilf]⟩) (.node .nil
 (some ⟨.func, 1, 8, [.d .nilf]⟩) .nil)))
 (some ⟨(.int .u64), 1, 8, [.d (.int .u64 (0))]⟩) (.node (.node (.node (.node .nil
 (some ⟨(.array 20 124), 20, 160, [.d (.int .u64 (0)), .d (.int .u64 (0)), .d (.int .u64 (0)), .d (.int .u64 (0)), .d (.int .u64 (0)), .d (.int .u64 (0)), .d (.int .u64 (0)), .d (.int .u64 (0)), .d (.int .u64 (0)), .d (.int .u64 (0)), .d (.int .u64 (0)), .d (.int .u64 (0)), .d (.int .u64 (0)), .d (.int .u64 (0)), .d (.int .u64 (0)), .d (.int .u64 (0)), .d (.int .u64 (0)), .d (.int .u64 (0)), .d (.int .u64 (0)), .d (.int .u64 (0))]⟩) .nil)
 (some ⟨.func, 1, 8, [.d .nilf]⟩) .nil)
 (some ⟨.func, 1, 8, [.d .nilf]⟩) (.node .nil
 (some ⟨.func, 1, 8, [.d .nilf]⟩) .nil))
 (some ⟨.func, 1, 8, [.d .nilf]⟩) (.node (.node (.node .nil
 (some ⟨(.struct [(0, 154)]), 0, 0, []⟩) .nil)
 (some ⟨(.struct [(0, 3), (1, 3)]), 2, 16, [.d (.int .i64 (0)), .d (.int .i64 (0))]⟩) .nil)
 (some ⟨.func, 1, 8, [.d .nilf]⟩) (.node .nil
 (some ⟨(.int .u64), 1, 8, [.d (.int .u64 (0))]⟩) .nil)))))
 (some ⟨(.int .i64), 1, 8, [.d (.int .i64 (0))]⟩) (.node (.node (.node (.node (.node (.node .nil
 (some ⟨(.int .i64), 1, 8, [.d (.int .i64 (0))]⟩) .nil)
 none .nil)
 (some ⟨.func, 1, 8, [.d .nilf]⟩) (.node (.node .nil
 (some ⟨(.struct [(0, 12), (1, 12), (2, 138), (3, 157), (4, 5), (5, 5), (6, 158), (7, 159), (8, 101), (9, 160), (10, 161)]), 11, 48, [.d (.int .u64 (0)), .d (.int .u64 (0)), .d (.int .u32 (0)), .d (.int .u8 (0)), .d (.int .u8 (0)), .d (.int .u8 (0)), .d (.int .u8 (0)), .d .nilf, .d .nilp, .d (.int .i32 (0)), .d (.int .i32 (0))]⟩) .nil)
 (some ⟨.func, 1, 8, [.d .nilf]⟩) .nil))
 (some ⟨(.struct [(0, 17)]), 1, 8, [.d .nilp]⟩) (.node (.node (.node .nil
 (some ⟨(.pointer 3), 1, 8, [.d .nilp]⟩) .nil)
 (some ⟨.func, 1, 8, [.d .nilf]⟩) .nil)
 (some ⟨.func, 1, 8, [.d .nilf]⟩) .nil))
 (some ⟨.string, 1, 16, [.d (.str ⟨#[]⟩)]⟩) (.node (.node (.node (.node .nil
 (some ⟨(.int .u32), 1, 4, [.d (.int .u32 (0))]⟩) .nil)
 (some ⟨.func, 1, 8, [.d .nilf]⟩) .nil)
 (some ⟨(.struct [(0, 23), (1, 23)]), 2, 48, [.nils, .nils]⟩) (.node .nil
 (some ⟨.func, 1, 8, [.d .nilf]⟩) .nil))
 (some ⟨.func, 1, 8, [.d .nilf]⟩) (.node (.node (.node .nil
 (some ⟨(.array 0 16), 0, 0, []⟩) .nil)
 (some ⟨.func, 1, 8, [.d .nilf]⟩) .nil)
 (some ⟨.func, 1, 8, [.d .nilf]⟩) (.node .nil
 (some ⟨(.int .u64), 1, 8, [.d (.int .u64 (0))]⟩) .nil))))
 (some ⟨(.int .u8), 1, 1, [.d (.int .u8 (0))]⟩) (.node (.node (.node (.node (.node .nil
 (some ⟨.func, 1, 8, [.d .nilf]⟩) .nil)
 (some ⟨(.slice 92), 1, 24, [.nils]⟩) .nil)
 (some ⟨.func, 1, 8, [.d .nilf]⟩) (.node .nil
 (some ⟨.func, 1, 8, [.d .nilf]⟩) .nil))
 (some ⟨(.slice 72), 1, 24, [.nils]⟩) (.node (.node (.node .nil
 (some ⟨(.array 32 5), 32, 32, [.d (.int .u8 (0)), .d (.int .u8 (0)), .d (.int .u8 (0)), .d (.int .u8 (0)), .d (.int .u8 (0)), .d (.int .u8 (0)), .d (.int .u8 (0)), .d (.int .u8 (0)), .d (.int .u8 (0)), .d (.int .u8 (0)), .d (.int .u8 (0)), .d (.int .u8 (0)), .d (.int .u8 (0)), .d (.int .u8 (0)), .d (.int .u8 (0)), .d (.int .u8 (0)), .d (.int .u8 (0)), .d (.int .u8 (0)), .d (.int .u8 (0)), .d (.int .u8 (0)), .d (.int .u8 (0)), .d (.int .u8 (0)), .d (.int .u8 (0)), .d (.int .u8 (0)), .d (.int .u8 (0)), .d (.int .u8 (0)), .d (.int .u8 (0)), .d (.int .u8 (0)), .d (.int .u8 (0)), .d (.int .u8 (0)), .d (.int .u8 (0)), .d (.int .u8 (0))]⟩) .nil)
 (some ⟨(.array 31 65), 93, 992, [.d (.str ⟨#[]⟩), .d (.int .i64 (0)), .d (.int .i64 (0)), .d (.str ⟨#[]⟩), .d (.int .i64 (0)), .d (.int .i64 (0)), .d (.str ⟨#[]⟩), .d (.int .i64 (0)), .d (.int .i64 (0)), .d (.str ⟨#[]⟩), .d (.int .i64 (0)), .d (.int .i64 (0)), .d (.str ⟨#[]⟩), .d (.int .i64 (0)), .d (.int .i64 (0)), .d (.str ⟨#[]⟩), .d (.int .i64 (0)), .d (.int .i64 (0)), .d (.str ⟨#[]⟩), .d (.int .i64 (0)), .d (.int .i64 (0)), .d (.str ⟨#[]⟩), .d (.int .i64 (0)), .d (.int .i64 (0)), .d (.str ⟨#[]⟩), .d (.int .i64 (0)), .d (.int .i64 (0)), .d (.str ⟨#[]⟩), .d (.int .i64 (0)), .d (.int .i64 (0)), .d (.str ⟨#[]⟩), .d (.int .i64 (0)), .d (.int .i64 (0)), .d (.str ⟨#[]⟩), .d (.int .i64 (0)), .d (.int .i64 (0)), .d (.str ⟨#[]⟩), .d (.int .i64 (0)), .d (.int .i64 (0)), .d (.str ⟨#[]⟩), .d (.int .i64 (0)), .d (.int .i64 (0)), .d (.str ⟨#[]⟩), .d (.int .i64 (0)), .d (.int .i64 (0)), .d (.str ⟨#[]⟩), .d (.int .i64 (0)), .d (.int .i64 (0)), .d (.str ⟨#[]⟩), .d (.int .i64 (0)), .d (.int .i64 (0)), .d (.str ⟨#[]⟩), .d (.int .i64 (0)), .d (.int .i64 (0)), .d (.str ⟨#[]⟩), .d (.int .i64 (0)), .d (.int .i64 (0)), .d (.str ⟨#[]⟩), .d (.int .i64 (0)), .d (.int .i64 (0)), .d (.str ⟨#[]⟩), .d (.int .i64 (0)), .d (.int .i64 (0)), .d (.str ⟨#[]⟩), .d (.int .i64 (0)), .d (.int .i64 (0)), .d (.str ⟨#[]⟩), .d (.int .i64 (0)), .d (.int .i64 (0)), .d (.str ⟨#[]⟩), .d (.int .i64 (0)), .d (.int .i64 (0)), .d (.str ⟨#[]⟩), .d (.int .i64 (0)), .d (.int .i64 (0)), .d (.str ⟨#[]⟩), .d (.int .i64 (0)), .d (.int .i64 (0)), .d (.str ⟨#[]⟩), .d (.int .i64 (0)), .d (.int .i64 (0)), .d (.str ⟨#[]⟩), .d (.int .i64 (0)), .d (.int .i64 (0)), .d (.str ⟨#[]⟩), .d (.int .i64 (0)), .d (.int .i64 (0)), .d (.str ⟨#[]⟩), .d (.int .i64 (0)), .d (.int .i64 (0)), .d (.str ⟨#[]⟩), .d (.int .i64 (0)), .d (.int .i64 (0))]⟩) .nil)
 none (.node .nil
 (some ⟨.func, 1, 8, [.d .nilf]⟩) .nil)))
 (some ⟨(.struct [(0, 9), (1, 12)]), 2, 24, [.d (.str ⟨#[]⟩), .d (.int .u64 (0))]⟩) (.node (.node (.node (.node .nil
 (some ⟨(.int .u64), 1, 8, [.d (.int .u64 (0))]⟩) .nil)
 (some ⟨(.slice 5), 1, 24, [.nils]⟩) .nil)
 (some ⟨(.int .i64), 1, 8, [.d (.int .i64 (0))]⟩) (.node .nil
 (some ⟨.func, 1, 8, [.d .nilf]⟩) .nil))
 (some ⟨.func, 1, 8, [.d .nilf]⟩) (.node (.node (.node .nil
 (some ⟨(.int .u8), 1, 1, [.d (.int .u8 (0))]⟩) .nil)
 none .nil)
 (some ⟨.func, 1, 8, [.d .nilf]⟩) (.node .nil
 (some ⟨.func, 1, 8, [.d .nilf]⟩) .nil)))))))
instance glb : Glb := ⟨fun b k v => False ∨ (b = 0 ∧ ((k < 20 ∧ v = some (.int .u64 ((10 ^ k : Nat) : Int))) ∨ (k = 20 ∧ v = none))), 80, 5⟩
def T [Ops] : Unit → Tab := fun _ => tbl.tab
noncomputable def P : Unit → Program := fun _ => Go.Proofs.Tryd.prog
theorem tabOk [Ops] : TabOk (P ()) (T ()) := Tables.tabOk (by kernel_rfl) rfl
end Go.VM

/- The value of a level with levels put in. -/
namespace Go.VM
set_option linter.unusedVariables false
set_option linter.unusedSimpArgs false
/-- the value of a number and of parts -/
def evL (x : Int → Int) (c : Int) : List Pt → Int
  | [] => c
  | p :: l => max (x p.1 + p.2) (evL x c l)
theorem evL_le {x : Int → Int} {c b : Int} : ∀ {l : List Pt}, evL x c l ≤ b ↔ c ≤ b ∧ ∀ p, p ∈ l → x p.1 + p.2 ≤ b
  | [] => by simp [evL]
  | p :: l => by
    unfold evL
    rw [Int.max_le, evL_le (l := l)]
    simp only [List.mem_cons]
    constructor
    · rintro ⟨h1, h2, h3⟩
      refine ⟨h2, fun q hq => ?_⟩
      rcases hq with rfl | hq
      · exact h1
      · exact h3 q hq
    · rintro ⟨h1, h2⟩
      exact ⟨h2 p (.inl rfl), h1, fun q hq => h2 q (.inr hq)⟩
theorem evL_ext {x y : Int → Int} {c d : Int} {l r : List Pt} (h : ∀ b, evL x c l ≤ b ↔ evL y d r ≤ b) : evL x c l = evL y d r :=
  Int.le_antisymm ((h _).2 (Int.le_refl _)) ((h _).1 (Int.le_refl _))
theorem evL_snoc (x : Int → Int) (c : Int) (l : List Pt) (p : Pt) : evL x c (l ++ [p]) = max (evL x c l) (x p.1 + p.2) := by
  induction l with
  | nil => simp only [List.nil_append, evL]; omega
  | cons q l ih => simp only [List.cons_append, evL, ih]; omega
theorem evV_L (V P : Nat → Int) (x : Int → Int) (c : Int) : ∀ n, evV V P x c n = evL x c (lst V P n)
  | 0 => rfl
  | n + 1 => by rw [evV, lst, evL_snoc, evV_L V P x c n]
theorem evL_ge {x : Int → Int} {c : Int} (l : List Pt) : c ≤ evL x c l := (evL_le.1 (Int.le_refl _)).1
theorem evL_in {x : Int → Int} {c : Int} {l : List Pt} {p : Pt} (h : p ∈ l) : x p.1 + p.2 ≤ evL x c l := (evL_le.1 (Int.le_refl _)).2 p h
theorem evL_mx {x : Int → Int} {c : Int} {q l : List Pt} (h : ∀ v, mx q v = mx l v) : evL x c q = evL x c l := by
  have key : ∀ {q l : List Pt}, (∀ v, mx q v = mx l v) → ∀ b, evL x c l ≤ b → evL x c q ≤ b := fun {q l} h b hb => by
    rw [evL_le] at hb ⊢
    refine ⟨hb.1, fun p hp => ?_⟩
    obtain ⟨y, e, hy⟩ := mx_mem hp
    rw [h] at e
    have := hb.2 _ (mx_in e)
    dsimp only at this
    omega
  exact evL_ext fun b => ⟨key (fun v => (h v).symm) b, key h b⟩
theorem evL_most {x : Int → Int} (hx : ∀ v, 0 ≤ x v) {c : Int} (hc : 0 ≤ c) (l : List Pt) : mostL l ≤ evL x c l := by
  have h0 := evL_ge (x := x) (c := c) l
  exact (mostL_le (by omega)).2 fun p hp => by have := evL_in (x := x) (c := c) hp; have := hx p.1; omega
theorem evL_cq {x : Int → Int} (hx : ∀ v, 0 ≤ x v) {c : Int} (hc : 0 ≤ c) (q : List Pt) : evL x (cq c q) q = evL x c q := by
  unfold cq
  split
  · rename_i h
    refine evL_ext fun b => ?_
    have h1 := evL_most hx (Int.le_refl 0) q
    have h2 := evL_most hx hc q
    constructor
    · intro hb
      have hb' := evL_le.1 hb
      exact evL_le.2 ⟨by omega, hb'.2⟩
    · intro hb
      have hb' := evL_le.1 hb
      exact evL_le.2 ⟨by omega, hb'.2⟩
  · rfl
/-- the assignment of the values of what is put in -/
def putX (m : Nat) (C : Nat → Int) (B : Nat → List Pt) (x : Int → Int) (v : Int) : Int := if v < m then evL x (C v.toNat) (B v.toNat) else x v
theorem evL_big {m : Nat} {C : Nat → Int} {B : Nat → List Pt} {x : Int → Int} {c : Int} : ∀ l : List Pt, evL x (sc m C c l) (big m B l) = evL (putX m C B x) c l
  | [] => rfl
  | p :: l => by
    have ih := evL_big (m := m) (C := C) (B := B) (x := x) (c := c) l
    have ihb : ∀ b, (sc m C c l ≤ b ∧ ∀ q, q ∈ big m B l → x q.1 + q.2 ≤ b) ↔ evL (putX m C B x) c l ≤ b := fun b => by rw [← ih, evL_le]
    refine evL_ext fun b => ?_
    rw [evL_le, evL, Int.max_le, ← ihb]
    simp only [sc, big, big1, putX]
    by_cases h : p.1 < m
    · simp only [if_pos h, List.mem_append, List.mem_map, Int.max_le]
      have e : evL x (C p.1.toNat) (B p.1.toNat) + p.2 ≤ b ↔ C p.1.toNat + p.2 ≤ b ∧ ∀ q, q ∈ B p.1.toNat → x q.1 + q.2 + p.2 ≤ b := by
        rw [show (evL x (C p.1.toNat) (B p.1.toNat) + p.2 ≤ b ↔ evL x (C p.1.toNat) (B p.1.toNat) ≤ b - p.2) by omega, evL_le]
        constructor
        · rintro ⟨h1, h2⟩; exact ⟨by omega, fun q hq => by have := h2 q hq; omega⟩
        · rintro ⟨h1, h2⟩; exact ⟨by omega, fun q hq => by have := h2 q hq; omega⟩
      rw [e]
      constructor
      · rintro ⟨⟨h1, h2⟩, h3⟩
        refine ⟨⟨h1, fun q hq => ?_⟩, h2, fun q hq => h3 q (.inr hq)⟩
        have := h3 (q.1, q.2 + p.2) (.inl ⟨q, hq, rfl⟩)
        dsimp only at this
        omega
      · rintro ⟨⟨h1, h2⟩, h3, h4⟩
        refine ⟨⟨h1, h3⟩, fun q hq => ?_⟩
        rcases hq with ⟨r, hr, rfl⟩ | hq
        · have := h2 r hr; dsimp only; omega
        · exact h4 q hq
    · simp only [if_neg h, List.mem_append, List.mem_singleton]
      constructor
      · rintro ⟨h1, h2⟩
        exact ⟨h2 p (.inl rfl), h1, fun q hq => h2 q (.inr hq)⟩
      · rintro ⟨h1, h2, h3⟩
        refine ⟨h2, fun q hq => ?_⟩
        rcases hq with rfl | hq
        · exact h1
        · exact h3 q hq
theorem evL_congr {x y : Int → Int} {c : Int} {l : List Pt} (h : ∀ p, p ∈ l → x p.1 = y p.1) : evL x c l = evL y c l := by
  induction l with
  | nil => rfl
  | cons p l ih =>
    unfold evL
    rw [h p List.mem_cons_self, ih fun q hq => h q (List.mem_cons_of_mem _ hq)]
/-- what comes out, by its value -/
theorem puts_ev {m : Nat} {C : Nat → Int} {B : Nat → List Pt} {x : Int → Int} {c c' : Int} {l q : List Pt} (hx : ∀ v, 0 ≤ x v) (hc : 0 ≤ c) (hq : ∀ v, mx q v = mx (big m B l) v) (hc' : c' = cq (sc m C c l) q) : evL x c' q = evL (putX m C B x) c l := by
  have := sc_ge m C c l
  rw [hc', evL_cq hx (by omega), evL_mx hq, evL_big]
theorem putX_ge {m : Nat} {C : Nat → Int} {B : Nat → List Pt} {x : Int → Int} (hx : ∀ v, 0 ≤ x v) (hC : ∀ i, i < m → 0 ≤ C i) (v : Int) (h0 : 0 ≤ v) : 0 ≤ putX m C B x v := by
  unfold putX
  split
  · have := hC v.toNat (by omega); have := evL_ge (x := x) (c := C v.toNat) (B v.toNat); omega
  · exact hx v
/-- what is at most stays so -/
theorem puts_leq {m : Nat} {C : Nat → Int} {B : Nat → List Pt} {c c' c1 c1' : Int} {n n' n1 n1' : Nat} {V P V' P' V1 P1 V1' P1' : Nat → Int} (va : ValidP c n V P) (vb : ValidP c' n' V' P') (v1 : ValidP c1 n1 V1 P1) (v1' : ValidP c1' n1' V1' P1')
    (hC : ∀ i, i < m → 0 ≤ C i) (h1 : ∀ v, mx (lst V1 P1 n1) v = mx (big m B (lst V P n)) v) (e1 : c1 = cq (sc m C c (lst V P n)) (lst V1 P1 n1))
    (h2 : ∀ v, mx (lst V1' P1' n1') v = mx (big m B (lst V' P' n')) v) (e2 : c1' = cq (sc m C c' (lst V' P' n')) (lst V1' P1' n1')) (h : LeqP c n V P c' n' V' P') : LeqP c1 n1 V1 P1 c1' n1' V1' P1' := by
  have key : ∀ x : Int → Int, (∀ v, 0 ≤ x v) → evV V1 P1 x c1 n1 ≤ evV V1' P1' x c1' n1' := fun x hx => by
    rw [evV_L, evV_L, puts_ev hx va.1 h1 e1, puts_ev hx vb.1 h2 e2]
    have e : ∀ {c n} {V P : Nat → Int}, ValidP c n V P → evL (putX m C B x) c (lst V P n) = evV V P (fun v => putX m C B x (max v 0)) c n := fun {c n V P} v => by
      rw [evV_L]
      refine evL_congr fun p hp => ?_
      obtain ⟨i, hi, rfl⟩ := lst_mem.1 hp
      have := (v.2.2.2 i hi).1
      dsimp only
      rw [show max (V i) 0 = V i by omega]
    rw [e va, e vb]
    exact leq_ev _ (fun v => putX_ge hx hC _ (by omega)) vb.1 h
  exact leq_of_ev v1 v1' (key _ fun _ => Int.le_refl _) fun i _ => key _ fun v => by split <;> decide
/-- the parts of what comes out, each in its range -/
theorem big_range {m : Nat} {B : Nat → List Pt} {l : List Pt} (hl : ∀ p, p ∈ l → 0 ≤ p.1 ∧ p.1 < 1200 ∧ 0 ≤ p.2) (hB : ∀ i, i < m → ∀ p, p ∈ B i → 0 ≤ p.1 ∧ p.1 < 1200 ∧ 0 ≤ p.2) : ∀ v p, mx (big m B l) v = some p → 0 ≤ v ∧ v < 1200 ∧ 0 ≤ p := by
  have key : ∀ l : List Pt, (∀ p, p ∈ l → 0 ≤ p.1 ∧ p.1 < 1200 ∧ 0 ≤ p.2) → ∀ q, q ∈ big m B l → 0 ≤ q.1 ∧ q.1 < 1200 ∧ 0 ≤ q.2 := by
    intro l
    induction l with
    | nil => intro _ q hq; cases hq
    | cons p l ih =>
      intro hl q hq
      have hp := hl p List.mem_cons_self
      simp only [big, big1, List.mem_append] at hq
      rcases hq with hq | hq
      · split at hq
        · obtain ⟨r, hr, rfl⟩ := List.mem_map.1 hq
          have := hB p.1.toNat (by omega) r hr
          dsimp only
          omega
        · obtain rfl := List.mem_singleton.1 hq
          exact hp
      · exact ih (fun r hr => hl r (List.mem_cons_of_mem _ hr)) q hq
  exact fun v p h => key l hl _ (mx_in h)
end Go.VM

/- A list of levels, as data. -/
namespace Go.VM
/-- a list of levels, as data -/
def lsF (C : Nat → Int) (N : Nat → Nat) (V P : Nat → Nat → Int) : Nat → Nat → D := fun i j => match j with | 0 => .int .i64 (C i) | _ => .sl (N i) 2 (lvF (V i) (P i))
end Go.VM

/- Terms, as data. -/
namespace Go.VM
open Go
set_option linter.unusedVariables false
set_option linter.unusedSimpArgs false
/-- what every machine's term keeps -/
structure TmOk (op n : Int) (s : ByteArray) (k : Nat) (N : Nat → Nat) (m : Nat) : Prop where
  op : -9223372036854775808 ≤ op ∧ op ≤ 9223372036854775807
  n : -9223372036854775808 ≤ n ∧ n ≤ 9223372036854775807
  s : s.size < 2 ^ 63
  k : k < 2 ^ 63
  N : ∀ i, N i < 2 ^ 63
  m : m < 2 ^ 63
/-- a term: Op, N, S, the levels of U (number, how many parts, parts), the parts of L -/
inductive Tm
  | mk (op n : Int) (s : ByteArray) (k : Nat) (C : Nat → Int) (N : Nat → Nat) (W Q : Nat → Nat → Int) (m : Nat) (ok : TmOk op n s k N m) (L : Fin m → Tm)
/-- the same, the parts as a function of all numbers -/
def Tm.nd (op n : Int) (s : ByteArray) (k : Nat) (C : Nat → Int) (N : Nat → Nat) (W Q : Nat → Nat → Int) (m : Nat) (ok : TmOk op n s k N m) (K : Nat → Tm) : Tm := .mk op n s k C N W Q m ok fun i => K i
def tmD : Tm → Nat → D
  | .mk op n s k C N W Q m _ L => fun j => match j with
    | 0 => .int .i64 op
    | 1 => .int .i64 n
    | 2 => .str s
    | 3 => .sl k 2 (lsF C N W Q)
    | _ => .sl m 5 (fun i j => if h : i < m then tmD (L ⟨i, h⟩) j else .nilp)
/-- a row of a list of terms -/
abbrev kid (G : Nat → Nat → D) (i : Nat) : A := .agg [.d (G i 0), .d (G i 1), .d (G i 2), .d (G i 3), .d (G i 4)]
/-- a term, as a value -/
def tm (t : Tm) : A := .agg [.d (tmD t 0), .d (tmD t 1), .d (tmD t 2), .d (tmD t 3), .d (tmD t 4)]
abbrev tml (op n : Int) (s : ByteArray) (k : Nat) (C : Nat → Int) (N : Nat → Nat) (W Q : Nat → Nat → Int) (m : Nat) (G : Nat → Nat → D) : A :=
  .agg [.d (.int .i64 op), .d (.int .i64 n), .d (.str s), .d (.sl k 2 (lsF C N W Q)), .d (.sl m 5 G)]
/-- INDUCTION over terms, the parts' rows as a function -/
theorem Tm.walk {P : Tm → Prop} (h : ∀ op n s k C N W Q m (ok : TmOk op n s k N m) (K : Nat → Tm) (G : Nat → Nat → D), (∀ i, i < m → tm (K i) = kid G i) → tm (.nd op n s k C N W Q m ok K) = tml op n s k C N W Q m G → (∀ i, i < m → P (K i)) → P (.nd op n s k C N W Q m ok K)) (t : Tm) : P t := by
  induction t with
  | mk op n s k C N W Q m ok L ih =>
    have e : Tm.mk op n s k C N W Q m ok L = .nd op n s k C N W Q m ok (fun i => if h : i < m then L ⟨i, h⟩ else .mk op n s k C N W Q m ok L) := by
      unfold Tm.nd
      refine congrArg _ (funext fun i => ?_)
      show L i = if h : i.1 < m then L ⟨i.1, h⟩ else _
      rw [dif_pos i.2]
    have hk : ∀ i (hi : i < m), (if h : i < m then L ⟨i, h⟩ else .mk op n s k C N W Q m ok L) = L ⟨i, hi⟩ := fun i hi => dif_pos hi
    rw [e]
    refine h op n s k C N W Q m ok _ (fun i j => if h : i < m then tmD (L ⟨i, h⟩) j else .nilp) (fun i hi => ?_) ?_ (fun i hi => ?_)
    · rw [hk i hi]
      unfold tm kid
      simp only [dif_pos hi]
    · rw [← e]
      unfold tm
      simp only [tmD]
    · rw [hk i hi]; exact ih _
def sumF (f : Nat → Nat) : Nat → Nat
  | 0 => 0
  | n + 1 => sumF f n + f n
theorem sumF_le {f : Nat → Nat} : ∀ {n i : Nat}, i ≤ n → sumF f i ≤ sumF f n
  | 0, i, h => by obtain rfl : i = 0 := by omega
                  exact Nat.le_refl _
  | n + 1, i, h => by
    by_cases e : i = n + 1
    · subst e; exact Nat.le_refl _
    · exact Nat.le_trans (sumF_le (n := n) (by omega)) (Nat.le_add_right _ _)
theorem sumF_one {f : Nat → Nat} {n i : Nat} (h : i < n) : sumF f i + f i ≤ sumF f n := sumF_le (f := f) (n := n) (i := i + 1) h
theorem sumF_ge {f : Nat → Nat} (hf : ∀ i, 1 ≤ f i) : ∀ n, n ≤ sumF f n
  | 0 => Nat.le_refl _
  | n + 1 => by have := sumF_ge hf n; have := hf n; simp only [sumF]; omega
theorem tmD_nd (op n : Int) (s : ByteArray) (k : Nat) (C : Nat → Int) (N : Nat → Nat) (W Q : Nat → Nat → Int) (m : Nat) (ok : TmOk op n s k N m) (K : Nat → Tm) :
    tmD (.nd op n s k C N W Q m ok K) 0 = .int .i64 op ∧ tmD (.nd op n s k C N W Q m ok K) 1 = .int .i64 n ∧ tmD (.nd op n s k C N W Q m ok K) 2 = .str s ∧ tmD (.nd op n s k C N W Q m ok K) 3 = .sl k 2 (lsF C N W Q) ∧
      tmD (.nd op n s k C N W Q m ok K) 4 = .sl m 5 (fun i j => if h : i < m then tmD (K i) j else .nilp) := by simp only [Tm.nd, tmD, and_self]
/-- a leaf -/
def Tm.leaf : Tm := .mk 0 0 ByteArray.empty 0 (fun _ => 0) (fun _ => 0) (fun _ _ => 0) (fun _ _ => 0) 0 ⟨by decide, by decide, by decide, by decide, fun _ => by decide, by decide⟩ fun i => absurd i.2 (Nat.not_lt_zero _)
theorem sumF_congr {f g : Nat → Nat} : ∀ {n : Nat}, (∀ i, i < n → f i = g i) → sumF f n = sumF g n
  | 0, _ => rfl
  | n + 1, h => by simp only [sumF]; rw [sumF_congr fun i hi => h i (by omega), h n (by omega)]
def maxF (f : Nat → Nat) : Nat → Nat
  | 0 => 0
  | n + 1 => max (maxF f n) (f n)
theorem maxF_congr {f g : Nat → Nat} : ∀ {n : Nat}, (∀ i, i < n → f i = g i) → maxF f n = maxF g n
  | 0, _ => rfl
  | n + 1, h => by simp only [maxF]; rw [maxF_congr fun i hi => h i (by omega), h n (by omega)]
theorem maxF_le {f : Nat → Nat} : ∀ {n i : Nat}, i ≤ n → maxF f i ≤ maxF f n
  | 0, i, h => by obtain rfl : i = 0 := by omega
                  exact Nat.le_refl _
  | n + 1, i, h => by
    by_cases e : i = n + 1
    · subst e; exact Nat.le_refl _
    · exact Nat.le_trans (maxF_le (n := n) (by omega)) (Nat.le_max_left _ _)
theorem maxF_sum {f g : Nat → Nat} : ∀ {n : Nat}, (∀ i, i < n → f i ≤ g i) → maxF f n ≤ sumF g n
  | 0, _ => Nat.le_refl _
  | n + 1, h => by have := maxF_sum fun i hi => h i (Nat.lt_succ_of_lt hi); have := h n (by omega); simp only [sumF, maxF]; omega
theorem sumF_mono {f g : Nat → Nat} : ∀ {n : Nat}, (∀ i, i < n → f i ≤ g i) → sumF f n ≤ sumF g n
  | 0, _ => Nat.le_refl _
  | n + 1, h => by have := sumF_mono fun i hi => h i (Nat.lt_succ_of_lt hi); have := h n (by omega); simp only [sumF]; omega
section
variable {op n : Int} {s : ByteArray} {k : Nat} {C : Nat → Int} {N : Nat → Nat} {W Q : Nat → Nat → Int} {m : Nat} {ok : TmOk op n s k N m} {K : Nat → Tm}
/-- nodes, levels and their parts -/
def nodesT : Tm → Nat
  | .mk op n s k C N W Q m _ L => 1 + sumF (fun i => 1 + N i) k + sumF (fun i => if h : i < m then nodesT (L ⟨i, h⟩) else 0) m
theorem nodesT_nd : nodesT (.nd op n s k C N W Q m ok K) = 1 + sumF (fun i => 1 + N i) k + sumF (fun i => nodesT (K i)) m := by
  have e : nodesT (.nd op n s k C N W Q m ok K) = 1 + sumF (fun i => 1 + N i) k + sumF (fun i => if h : i < m then nodesT (K i) else 0) m := by simp only [Tm.nd, nodesT]
  rw [e, sumF_congr (f := fun i => if h : i < m then nodesT (K i) else 0) (g := fun i => nodesT (K i)) fun i hi => dif_pos hi]
theorem nodesT_pos : ∀ t, 1 ≤ nodesT t
  | .mk op n s k C N W Q m _ L => by unfold nodesT; omega
/-- a text of more than 200 bytes -/
def longT : Tm → Prop
  | .mk op n s k C N W Q m _ L => 200 < s.size ∨ ∃ i : Fin m, longT (L i)
theorem longT_nd : longT (.nd op n s k C N W Q m ok K) ↔ 200 < s.size ∨ ∃ i, i < m ∧ longT (K i) := by
  have e : longT (.nd op n s k C N W Q m ok K) ↔ (200 < s.size ∨ ∃ i : Fin m, longT (K i)) := by simp only [Tm.nd, longT]
  rw [e]
  refine or_congr Iff.rfl ⟨?_, ?_⟩
  · rintro ⟨i, h⟩; exact ⟨i, i.2, h⟩
  · rintro ⟨i, hi, h⟩; exact ⟨⟨i, hi⟩, h⟩
/-- a term of at most that many nodes -/
def Light (t : Tm) (most : Nat) : Prop := nodesT t ≤ most ∧ ¬ longT t
theorem Light.kid {most : Nat} (h : Light (.nd op n s k C N W Q m ok K) most) : s.size ≤ 200 ∧ k + m < most ∧ (∀ i, i < k → N i < most) ∧ ∀ i, i < m → Light (K i) most := by
  obtain ⟨h1, h2⟩ := h
  rw [nodesT_nd] at h1
  rw [longT_nd] at h2
  have hk := sumF_ge (f := fun i => 1 + N i) (fun i => by omega) k
  have hm := sumF_ge (f := fun i => nodesT (K i)) (fun i => nodesT_pos _) m
  refine ⟨Nat.le_of_not_lt fun h => h2 (.inl h), by omega, fun i hi => ?_, fun i hi => ⟨?_, fun h => h2 (.inr ⟨i, hi, h⟩)⟩⟩
  · have := sumF_one (f := fun i => 1 + N i) hi; omega
  · have := sumF_one (f := fun i => nodesT (K i)) hi; omega
/-- nodes -/
def cntT : Tm → Nat
  | .mk op n s k C N W Q m _ L => sumF (fun i => if h : i < m then cntT (L ⟨i, h⟩) else 0) m + 1
theorem cntT_nd : cntT (.nd op n s k C N W Q m ok K) = sumF (fun i => cntT (K i)) m + 1 := by
  have e : cntT (.nd op n s k C N W Q m ok K) = sumF (fun i => if h : i < m then cntT (K i) else 0) m + 1 := by simp only [Tm.nd, cntT]
  rw [e, sumF_congr (f := fun i => if h : i < m then cntT (K i) else 0) (g := fun i => cntT (K i)) fun i hi => dif_pos hi]
/-- levels of nodes -/
def depT : Tm → Nat
  | .mk op n s k C N W Q m _ L => maxF (fun i => if h : i < m then depT (L ⟨i, h⟩) else 0) m + 1
theorem depT_nd : depT (.nd op n s k C N W Q m ok K) = maxF (fun i => depT (K i)) m + 1 := by
  have e : depT (.nd op n s k C N W Q m ok K) = maxF (fun i => if h : i < m then depT (K i) else 0) m + 1 := by simp only [Tm.nd, depT]
  rw [e, maxF_congr (f := fun i => if h : i < m then depT (K i) else 0) (g := fun i => depT (K i)) fun i hi => dif_pos hi]
theorem cntT_le (t : Tm) : cntT t ≤ nodesT t := by
  refine Tm.walk (P := fun t => cntT t ≤ nodesT t) ?_ t
  intro op n s k C N W Q m ok K G _ _ ih
  rw [cntT_nd, nodesT_nd]
  have := sumF_mono (f := fun i => cntT (K i)) (g := fun i => nodesT (K i)) ih
  omega
theorem depT_le (t : Tm) : depT t ≤ nodesT t := by
  refine Tm.walk (P := fun t => depT t ≤ nodesT t) ?_ t
  intro op n s k C N W Q m ok K G _ _ ih
  rw [depT_nd, nodesT_nd]
  have := maxF_sum (f := fun i => depT (K i)) (g := fun i => nodesT (K i)) ih
  omega
end
end Go.VM

/- What a node's form is. -/
namespace Go.VM
open Go
set_option linter.unusedVariables false
set_option linter.unusedSimpArgs false
/-- what an Op uses, and how many parts it has -/
def usesL : List Int := [0, 8, 5, 2, 0, 64, 32, 32, 64, 64, 0, 0, 0, 0, 0, 0, 0, 32, 2, 2, 2, 2, 2, 2, 0, 34, 5, 21, 37, 8, 0]
def partsL : List Int := [0, 0, 0, 0, 0, 2, 2, 2, 2, 4, 1, 1, 0, 0, 0, 0, 0, 2, 3, 2, 6, 4, 3, 5, 2, 5, 1, 2, -1, 0, 0]
def mostLt : List Int := [0, 2000, 0, 0, 0, 3, 1, 1, 3, 3, 0, 0, 0, 0, 0, 0, 0, 1, 0, 0, 0, 0, 0, 0, 0, 1, 0, 7, 1, 2000, 0]
def levL : List Int := [0, 0, -1, 1, 0, 0, 0, 0, 0, 0, 0, 0, 0, 0, 0, 0, 0, 0, 1, 1, 1, 1, 1, 1, 0, 1, -1, -1, -1, 0, 0]
def atL (l : List Int) (op : Int) : Int := l.getD op.toNat 0
/-- a byte of a name -/
def LetterP (c : Int) : Prop := (97 ≤ c ∧ c ≤ 122) ∨ (65 ≤ c ∧ c ≤ 90) ∨ c = 95
def NameP (s : ByteArray) : Prop := 1 ≤ s.size ∧ s.size ≤ 24 ∧ ∀ i : Nat, i < s.size → LetterP (btF s i) ∨ (i ≠ 0 ∧ ((48 ≤ btF s i ∧ btF s i ≤ 57) ∨ btF s i = 46))
/-- a node by itself, but for its levels -/
def NodeP (op n : Int) (s : ByteArray) (k m : Nat) : Prop :=
  1 ≤ op ∧ op ≤ 30 ∧ 0 ≤ n ∧ n ≤ atL mostLt op ∧ (if atL levL op = -1 then k ≤ 8 ∧ NameP s else (k : Int) = atL levL op ∧ s.size = 0) ∧ (if op = 28 then 3 ≤ m ∧ m ≤ 11 else (m : Int) = atL partsL op)
end Go.VM

/- The rows of the seat, from the contracts: what all laws share. -/
namespace Go.VM
open Go.Proofs Go Go.ChangeShapes Go.WideShapes Go.ChangeAt Go.RowKit
open Go.Proofs.YtfbecfnagidioaaDoor
set_option maxRecDepth 100000
set_option linter.unusedVariables false
theorem own : ownKnob Tryd.prog.godebug = none := by kernel_rfl
theorem laidOut : laidOutB Tryd.prog = true := by kernel_rfl
theorem gN : Tryd.prog.globalNamed "internal/strconv.uint64pow10" = some 0 := by kernel_rfl
theorem gNType : (Tryd.prog.globals[0]?).map (·.type) = some 140 := by kernel_rfl
theorem cellsA : Tryd.prog.cellsOf 124 = 1 := by kernel_rfl
theorem cellsB : Tryd.prog.cellsOf 140 = 20 := by kernel_rfl
noncomputable def laidL : List (String × DataW Unit) := [("math/bits.deBruijn32tab", Rows.laid_math_bits_deBruijn32tab), ("math/bits.deBruijn64tab", Rows.laid_math_bits_deBruijn64tab), ("internal/strconv.uint64pow10", Rows.laid_internal_strconv_uint64pow10)]
theorem laid_filter : (laidL.filter fun x => x.1 == "internal/strconv.uint64pow10") = [("internal/strconv.uint64pow10", Lib.tabData .u64 Lib.pow10Tab)] := by kernel_rfl
theorem glob_of (W : World) (h : laidMetH Tryd.prog laidL W) : ∀ b k v, Glb.G b k v → b < W.heap.size ∧ W.cell? ⟨b, k, none⟩ = v := by
  have h2 := laidMetH.filter (fun x => x.1 == "internal/strconv.uint64pow10") h
  rw [laid_filter] at h2
  have e : laidMetH Tryd.prog [("internal/strconv.uint64pow10", Lib.tabData .u64 Lib.pow10Tab)] W = laidMet Tryd.prog [("internal/strconv.uint64pow10", Lib.tabData .u64 Lib.pow10Tab)] W := rfl
  rw [e] at h2
  have tab : Lib.TabIs Tryd.prog W "internal/strconv.uint64pow10" .u64 Lib.pow10Tab := Lib.tabIs_of_head gN gNType Tryd.underlying140 Tryd.underlying124 cellsA cellsB h2
  unfold Lib.TabIs World.var? at tab
  have gN' : Tryd.prog.globalNamed "internal/strconv.uint64pow10" = some 0 := gN
  rw [gN'] at tab
  simp only [Option.bind_some] at tab
  split at tab
  · rename_i cs t fr hc
    simp only [Option.some.injEq] at tab
    have hl : (0 : Nat) < W.heap.size := (Array.getElem?_eq_some_iff.1 hc).1
    have hsz : cs.size = 20 := by rw [tab]; simp [Lib.pow10Tab]
    rintro b k v (h | ⟨rfl, ⟨hk, rfl⟩ | ⟨rfl, rfl⟩⟩)
    · exact h.elim
    · refine ⟨hl, ?_⟩
      unfold World.cell?
      rw [hc]
      simp [tab, Lib.pow10Tab, hk]
    · refine ⟨hl, ?_⟩
      unfold World.cell?
      rw [hc]
      simp [hsz]
  · cases tab
noncomputable def laidWorld (os : Os) : World := World.laidAll Tryd.prog os laidL
theorem laid_met (os : Os) (args : Array Value) : laidMet Tryd.prog laidL ((laidWorld os).forCall (fun _ _ => 0) ⟨#[], args, []⟩).memory :=
  laidMet_laidAll args (by kernel_rfl) (by kernel_rfl)
theorem laid_shaped (os : Os) (args : Array Value) : ((laidWorld os).forCall (fun _ _ => 0) ⟨#[], args, []⟩).Shaped Tryd.prog :=
  World.shaped_of_ZipB (by kernel_rfl) (by kernel_rfl)

/-! ### Arguments -/
def argTs : List TypeId := [3, 9, 70, 92, 72, 22, 25, 23, 45]
theorem argTs_ok : ∀ t, t ∈ argTs → plainT Tryd.prog argTs t = true := List.all_eq_true.1 (by kernel_rfl)
variable {H : Type} {enc : TypeId × Value → H} {W : World} {base b0 : Nat} {sp : Nat → Bool} {held : Bool} {r : Reach} {v : Value} {d : DataW H} {ps : List MemPlace}
def intD : D → Int
  | .int _ n => n
  | _ => 0
theorem lvar_shp {g : Nat → D} (h : Shp Tryd.prog 92 ((List.range (Tryd.prog.cellsOf 92)).map g)) : g 0 = .int .i64 (intD (g 0)) ∧ g 1 = .int .i64 (intD (g 1)) := by
  have c : Tryd.prog.cellsOf 92 = 2 := by kernel_rfl
  rw [c] at h
  have h := h.struct_inv Tryd.underlying92
  generalize hd : List.map g (List.range 2) = ds at h
  cases h with | @cons _ _ d1 d2 h1 _ h2 =>
  obtain ⟨a, rfl, _⟩ := h1.int_inv Tryd.underlying3
  cases h2 with | @cons _ _ d3 d4 h3 _ h4 =>
  obtain ⟨b, rfl, _⟩ := h3.int_inv Tryd.underlying3
  cases h4
  simp [List.range_succ] at hd
  rw [hd.1, hd.2]
  exact ⟨rfl, rfl⟩
theorem vars_shp {ds : List D} (h : Shp Tryd.prog 70 ds) : ∃ (n : Nat) (g : Nat → Nat → D) (V P0 : Nat → Int), ds = [.sl n 2 g] ∧ n ≤ maxLen ∧ Deq (.sl n 2 g) (.sl n 2 (lvF V P0)) := by
  obtain ⟨n, g, e, hn, hall⟩ := h.slice_inv Tryd.underlying70
  have c : Tryd.prog.cellsOf 92 = 2 := by kernel_rfl
  refine ⟨n, g, fun i => intD (g i 0), fun i => intD (g i 1), by rw [e, c], hn, .sl _ _ _ _ fun i j hi hj => .of_eq ?_⟩
  obtain ⟨h1, h2⟩ := lvar_shp (hall i hi)
  match j, hj with
  | 0, _ => exact h1
  | 1, _ => exact h2
theorem level_shp {ds : List D} (h : Shp Tryd.prog 72 ds) : ∃ (c : Int) (n : Nat) (g : Nat → Nat → D) (V P0 : Nat → Int), ds = [.int .i64 c, .sl n 2 g] ∧ n ≤ maxLen ∧ Deq (.sl n 2 g) (.sl n 2 (lvF V P0)) := by
  have h := h.struct_inv Tryd.underlying72
  generalize hd : ds = ds' at h
  cases h with | @cons _ _ d1 d2 h1 _ h2 =>
  obtain ⟨c, rfl, _⟩ := h1.int_inv Tryd.underlying3
  cases h2 with | @cons _ _ d3 d4 h3 _ h4 =>
  obtain ⟨n, g, V, P0, rfl, hn, he⟩ := vars_shp h3
  cases h4
  exact ⟨c, n, g, V, P0, rfl, hn, he⟩
theorem levels_shp {ds : List D} (h : Shp Tryd.prog 22 ds) : ∃ (m : Nat) (g : Nat → Nat → D) (C : Nat → Int) (N : Nat → Nat) (V P0 : Nat → Nat → Int), ds = [.sl m 2 g] ∧ m ≤ maxLen ∧ (∀ i, N i < 2 ^ 63) ∧ Deq (.sl m 2 g) (.sl m 2 (lsF C N V P0)) := by
  obtain ⟨m, g, e, hm, hall⟩ := h.slice_inv Tryd.underlying22
  have c : Tryd.prog.cellsOf 72 = 2 := by kernel_rfl
  rw [c] at hall e
  have each : ∀ i, i < m → ∃ (q : Int × Nat × (Nat → Int) × (Nat → Int)), g i 0 = .int .i64 q.1 ∧ q.2.1 < 2 ^ 63 ∧ Deq (g i 1) (.sl q.2.1 2 (lvF q.2.2.1 q.2.2.2)) := fun i hi => by
    obtain ⟨c, n, g', V, P0, e, hn, he⟩ := level_shp (hall i hi)
    simp [List.range_succ] at e
    exact ⟨(c, n, V, P0), e.1, by unfold maxLen at hn; dsimp only; omega, by rw [e.2]; exact he⟩
  let Q : Nat → Int × Nat × (Nat → Int) × (Nat → Int) := fun i => if h : i < m then (each i h).choose else (0, 0, fun _ => 0, fun _ => 0)
  have hQ : ∀ i, i < m → g i 0 = .int .i64 (Q i).1 ∧ (Q i).2.1 < 2 ^ 63 ∧ Deq (g i 1) (.sl (Q i).2.1 2 (lvF (Q i).2.2.1 (Q i).2.2.2)) := fun i hi => by
    simp only [Q, dif_pos hi]
    exact (each i hi).choose_spec
  refine ⟨m, g, fun i => (Q i).1, fun i => (Q i).2.1, fun i => (Q i).2.2.1, fun i => (Q i).2.2.2, e, hm, fun i => ?_, .sl _ _ _ _ fun i j hi hj => ?_⟩
  · by_cases hi : i < m
    · exact (hQ i hi).2.1
    · simp only [Q, dif_neg hi]; decide
  · match j, hj with
    | 0, _ => exact .of_eq (hQ i hi).1
    | 1, _ => exact (hQ i hi).2.2
/-- the five columns of a term -/
def Col (t : Tm) (d0 d1 d2 d3 d4 : D) : Prop := Deq d0 (tmD t 0) ∧ Deq d1 (tmD t 1) ∧ Deq d2 (tmD t 2) ∧ Deq d3 (tmD t 3) ∧ Deq d4 (tmD t 4)
theorem term_shp (d4 : D) : ∀ d0 d1 d2 d3, Shp Tryd.prog 25 [d0, d1, d2, d3, d4] → ∃ t, Col t d0 d1 d2 d3 d4 := by
  have five : ∀ ds : List D, Shp Tryd.prog 25 ds → ∃ (op n : Int) (s : ByteArray) (k : Nat) (gu : Nat → Nat → D) (C : Nat → Int) (N : Nat → Nat) (V P0 : Nat → Nat → Int) (m : Nat) (gl : Nat → Nat → D),
      ds = [.int .i64 op, .int .i64 n, .str s, .sl k 2 gu, .sl m 5 gl] ∧ TmOk op n s k N m ∧ Deq (.sl k 2 gu) (.sl k 2 (lsF C N V P0)) ∧ ∀ i, i < m → Shp Tryd.prog 25 [gl i 0, gl i 1, gl i 2, gl i 3, gl i 4] := fun ds h => by
    have h := h.struct_inv Tryd.underlying25
    generalize hd : ds = ds' at h
    cases h with | @cons _ _ d1 d2 h1 _ h2 =>
    obtain ⟨op, rfl, w1⟩ := h1.int_inv Tryd.underlying3
    cases h2 with | @cons _ _ d3 d4 h3 _ h4 =>
    obtain ⟨n, rfl, w2⟩ := h3.int_inv Tryd.underlying3
    cases h4 with | @cons _ _ d5 d6 h5 _ h6 =>
    obtain ⟨s, rfl, w3⟩ := h5.str_inv Tryd.underlying9
    cases h6 with | @cons _ _ d7 d8 h7 _ h8 =>
    obtain ⟨k, gu, C, N, V, P0, rfl, w4, w5, w6⟩ := levels_shp h7
    cases h8 with | @cons _ _ d9 d10 h9 _ h10 =>
    obtain ⟨m, gl, e, w7, hall⟩ := h9.slice_inv Tryd.underlying23
    have c : Tryd.prog.cellsOf 25 = 5 := by kernel_rfl
    rw [c] at hall e
    subst e
    cases h10
    refine ⟨op, n, s, k, gu, C, N, V, P0, m, gl, rfl, ⟨?_, ?_, by unfold maxLen at w3; omega, by unfold maxLen at w4; omega, w5, by unfold maxLen at w7; omega⟩, w6, fun i hi => hall i hi⟩
    · simpa [Lit.wf, IntKind.min, IntKind.max, IntKind.bits, IntKind.signed] using w1
    · simpa [Lit.wf, IntKind.min, IntKind.max, IntKind.bits, IntKind.signed] using w2
  induction d4 with
  | sl m sz g ih =>
    intro d0 d1 d2 d3 h
    obtain ⟨op, n, s, k, gu, C, N, V, P0, m', gl, e, ok, hu, hall⟩ := five _ h
    simp only [List.cons.injEq, D.sl.injEq, and_true] at e
    obtain ⟨rfl, rfl, rfl, rfl, rfl, rfl, rfl⟩ := e
    have each : ∀ i, i < m → ∃ t, Col t (g i 0) (g i 1) (g i 2) (g i 3) (g i 4) := fun i hi => ih i 4 _ _ _ _ (hall i hi)
    let K : Nat → Tm := fun i => if h : i < m then (each i h).choose else .leaf
    have hK : ∀ i, i < m → Col (K i) (g i 0) (g i 1) (g i 2) (g i 3) (g i 4) := fun i hi => by
      simp only [K, dif_pos hi]
      exact (each i hi).choose_spec
    obtain ⟨t0, t1, t2, t3, t4⟩ := tmD_nd op n s k C N V P0 m ok K
    refine ⟨.nd op n s k C N V P0 m ok K, ?_⟩
    unfold Col
    rw [t0, t1, t2, t3, t4]
    refine ⟨.refl _, .refl _, .refl _, hu, .sl _ _ _ _ fun i j hi hj => ?_⟩
    rw [dif_pos hi]
    obtain ⟨q0, q1, q2, q3, q4⟩ := hK i hi
    match j, hj with
    | 0, _ => exact q0
    | 1, _ => exact q1
    | 2, _ => exact q2
    | 3, _ => exact q3
    | 4, _ => exact q4
  | _ =>
    intro d0 d1 d2 d3 h
    obtain ⟨op, n, s, k, gu, C, N, V, P0, m', gl, e, _⟩ := five _ h
    simp at e
theorem open_term (hval : Value.okWide Tryd.prog W r b0 25 v) (hd : DataW.Trod enc Tryd.prog W base sp held 25 v d ps) :
    ∃ t : Tm, ∀ ι H, RepA W (fun b _ => b < W.heap.size) ι H v (tm t) := by
  have lim : Lim := ⟨fun _ _ => True⟩
  obtain ⟨cs, rfl, hsz⟩ := okWide_struct Tryd.underlying25 hval
  obtain ⟨fuel, hf⟩ := hd
  obtain ⟨ds, h1, h2, h3, h4⟩ := trod_open argTs_ok fuel 25 _ _ (by decide) hf
  have c : Tryd.prog.cellsOf 25 = 5 := by kernel_rfl
  have hl : ds.length = 5 := by rw [h1, h2, c]
  match ds, hl with
  | [d0, d1, d2, d3, d4], _ =>
    obtain ⟨t, q0, q1, q2, q3, q4⟩ := term_shp d4 _ _ _ _ h4
    refine ⟨t, fun ι H => .agg cs.toList _ ?_ fun k hk => ?_⟩
    · simpa [Value.cells] using h1.symm
    · match k, hk with
      | 0, _ => exact .d _ _ ((h3 0 (by simp)).deq q0)
      | 1, _ => exact .d _ _ ((h3 1 (by simp)).deq q1)
      | 2, _ => exact .d _ _ ((h3 2 (by simp)).deq q2)
      | 3, _ => exact .d _ _ ((h3 3 (by simp)).deq q3)
      | 4, _ => exact .d _ _ ((h3 4 (by simp)).deq q4)
end Go.VM

/- Terms mapped: shifted, filled, copied, their free variables. -/
namespace Go.VM
open Go
set_option linter.unusedVariables false
set_option linter.unusedSimpArgs false
/-- how many variables a part binds -/
def bindI (op : Int) (m : Nat) (i : Int) : Int := if i < 0 ∨ (m : Int) ≤ i then 0 else if (op = 5 ∨ op = 6 ∨ op = 8 ∨ op = 9 ∨ op = 20) ∧ i = 1 then 1 else if op = 23 ∧ i = 1 then 2 else if op = 25 ∧ (i = 1 ∨ i = 2) then 1 else if op = 28 ∧ i = 0 then 2 else if op = 28 ∧ i < (m : Int) - 2 then 3 else 0
theorem bindI_le (op : Int) (m : Nat) (i : Int) : 0 ≤ bindI op m i ∧ bindI op m i ≤ 3 := by
  unfold bindI
  repeat' split
  all_goals omega
theorem bindI_0 (m : Nat) (i : Int) : bindI 1 m i = 0 := by
  unfold bindI
  repeat' split
  all_goals omega
/-- a variable whose number counts -/
def IsV (op n : Int) : Prop := op = 1 ∧ 0 ≤ n ∧ n ≤ 2147483648
instance (op n : Int) : Decidable (IsV op n) := inferInstanceAs (Decidable (_ ∧ _))
/-- a term, each variable in it replaced, from the leaves on -/
def mapT (f : Tm → Int → Tm) : Tm → Int → Tm
  | .mk op n s k C N W Q m ok L, d =>
    if IsV op n then f (.mk op n s k C N W Q m ok fun i => mapT f (L i) (d + bindI op m i.1)) d else .mk op n s k C N W Q m ok fun i => mapT f (L i) (d + bindI op m i.1)
def foldF {Y : Type} (g : Nat → Y → Y) : Nat → Y → Y
  | 0, y => y
  | n + 1, y => g n (foldF g n y)
theorem foldF_congr {Y : Type} {g h : Nat → Y → Y} : ∀ {n : Nat} {y : Y}, (∀ i z, i < n → g i z = h i z) → foldF g n y = foldF h n y
  | 0, _, _ => rfl
  | n + 1, y, e => by simp only [foldF]; rw [foldF_congr fun i z hi => e i z (by omega), e n _ (by omega)]
/-- what is noted on the way -/
def runT {Y : Type} (f : Int → Int → Y → Y) : Tm → Int → Y → Y
  | .mk op n s k C N W Q m ok L, d, y =>
    if IsV op n then f n d (foldF (fun i z => if h : i < m then runT f (L ⟨i, h⟩) (d + bindI op m i) z else z) m y) else foldF (fun i z => if h : i < m then runT f (L ⟨i, h⟩) (d + bindI op m i) z else z) m y
section
variable {op n : Int} {s : ByteArray} {k : Nat} {C : Nat → Int} {N : Nat → Nat} {W Q : Nat → Nat → Int} {m : Nat} {ok : TmOk op n s k N m} {K : Nat → Tm}
theorem mapT_nd (f : Tm → Int → Tm) (d : Int) : mapT f (.nd op n s k C N W Q m ok K) d =
    if IsV op n then f (.nd op n s k C N W Q m ok fun i => mapT f (K i) (d + bindI op m i)) d else .nd op n s k C N W Q m ok fun i => mapT f (K i) (d + bindI op m i) := by
  simp only [Tm.nd, mapT]
theorem runT_nd {Y : Type} (f : Int → Int → Y → Y) (d : Int) (y : Y) : runT f (.nd op n s k C N W Q m ok K) d y =
    if IsV op n then f n d (foldF (fun i z => runT f (K i) (d + bindI op m i) z) m y) else foldF (fun i z => runT f (K i) (d + bindI op m i) z) m y := by
  have e : ∀ y, foldF (fun i z => if h : i < m then runT f (K i) (d + bindI op m i) z else z) m y = foldF (fun i z => runT f (K i) (d + bindI op m i) z) m y := fun y => foldF_congr fun i z hi => dif_pos hi
  simp only [Tm.nd, runT, e]
/-- two terms whose parts are the same -/
theorem nd_congr {K' : Nat → Tm} (h : ∀ i, i < m → K i = K' i) : Tm.nd op n s k C N W Q m ok K = .nd op n s k C N W Q m ok K' := by
  unfold Tm.nd
  exact congrArg _ (funext fun i => h i i.2)
theorem tm_nd (G : Nat → Nat → D) : tm (.nd op n s k C N W Q m ok K) = .agg [.d (.int .i64 op), .d (.int .i64 n), .d (.str s), .d (.sl k 2 (lsF C N W Q)), .d (.sl m 5 (fun i j => if i < m then tmD (K i) j else .nilp))] := by
  unfold tm
  obtain ⟨h0, h1, h2, h3, h4⟩ := tmD_nd op n s k C N W Q m ok K
  rw [h0, h1, h2, h3, h4]
  simp only [dite_eq_ite]
end
/-- a whole number, as it is in the machine -/
def clampI (x : Int) : Int := if -9223372036854775808 ≤ x ∧ x ≤ 9223372036854775807 then x else 0
theorem clampI_ok (x : Int) : -9223372036854775808 ≤ clampI x ∧ clampI x ≤ 9223372036854775807 := by unfold clampI; split <;> omega
theorem clampI_eq {x : Int} (h : -9223372036854775808 ≤ x ∧ x ≤ 9223372036854775807) : clampI x = x := if_pos h
/-- another number -/
def setN (n' : Int) : Tm → Tm
  | .mk op n s k C N W Q m ok L => .mk op (clampI n') s k C N W Q m ⟨ok.op, clampI_ok n', ok.s, ok.k, ok.N, ok.m⟩ L
def numT : Tm → Int
  | .mk op n s k C N W Q m ok L => n
/-- a variable shifted -/
def fSh (by' frm : Int) (x : Tm) (d : Int) : Tm := if frm ≤ numT x - d then setN (numT x + by') x else x
def stSh (by' frm : Int) (n d : Int) (y : Bool) : Bool := if frm ≤ n - d then y && decide (frm ≤ n + by' - d) else y
def stFr (n d : Int) (y : Int) : Int := max y (n - d + 1)
/-- all variables stay from the first one on -/
def OkT (by' frm : Int) : Tm → Int → Prop
  | .mk op n s k C N W Q m ok L, d => (IsV op n → frm ≤ n - d → frm ≤ n + by' - d) ∧ ∀ i : Fin m, OkT by' frm (L i) (d + bindI op m i.1)
/-- how far the free variables reach -/
def freeT : Tm → Int → Int
  | .mk op n s k C N W Q m ok L, d => foldF (fun i z => if h : i < m then max z (freeT (L ⟨i, h⟩) (d + bindI op m i)) else z) m (if IsV op n then max 0 (n - d + 1) else 0)
section
variable {op n : Int} {s : ByteArray} {k : Nat} {C : Nat → Int} {N : Nat → Nat} {W Q : Nat → Nat → Int} {m : Nat} {ok : TmOk op n s k N m} {K : Nat → Tm}
theorem OkT_nd (by' frm d : Int) : OkT by' frm (.nd op n s k C N W Q m ok K) d ↔ (IsV op n → frm ≤ n - d → frm ≤ n + by' - d) ∧ ∀ i : Nat, i < m → OkT by' frm (K i) (d + bindI op m i) := by
  have e : OkT by' frm (.nd op n s k C N W Q m ok K) d ↔ (IsV op n → frm ≤ n - d → frm ≤ n + by' - d) ∧ ∀ i : Fin m, OkT by' frm (K i) (d + bindI op m i.1) := by simp only [Tm.nd, OkT]
  rw [e]
  exact and_congr Iff.rfl ⟨fun h i hi => h ⟨i, hi⟩, fun h i => h i i.2⟩
theorem freeT_nd (d : Int) : freeT (.nd op n s k C N W Q m ok K) d = foldF (fun i z => max z (freeT (K i) (d + bindI op m i))) m (if IsV op n then max 0 (n - d + 1) else 0) := by
  have e : ∀ y, foldF (fun i z => if h : i < m then max z (freeT (K i) (d + bindI op m i)) else z) m y = foldF (fun i z => max z (freeT (K i) (d + bindI op m i))) m y := fun y => foldF_congr fun i z hi => dif_pos hi
  simp only [Tm.nd, freeT, e]
end
theorem foldF_and {P : Nat → Prop} {g : Nat → Bool → Bool} (y : Bool) : ∀ {n : Nat}, (∀ i z, i < n → (g i z = true ↔ z = true ∧ P i)) → (foldF g n y = true ↔ y = true ∧ ∀ i, i < n → P i)
  | 0, _ => ⟨fun h => ⟨h, fun i hi => absurd hi (Nat.not_lt_zero _)⟩, fun h => h.1⟩
  | n + 1, e => by
    simp only [foldF]
    rw [e n _ (by omega), foldF_and y fun i z hi => e i z (by omega)]
    constructor
    · rintro ⟨⟨h1, h2⟩, h3⟩
      refine ⟨h1, fun i hi => ?_⟩
      by_cases e2 : i = n
      · subst e2; exact h3
      · exact h2 i (by omega)
    · rintro ⟨h1, h2⟩
      exact ⟨⟨h1, fun i hi => h2 i (by omega)⟩, h2 n (by omega)⟩
theorem runT_sh (by' frm : Int) (t : Tm) : ∀ d y, (runT (stSh by' frm) t d y = true ↔ y = true ∧ OkT by' frm t d) := by
  refine Tm.walk (P := fun t => ∀ d y, (runT (stSh by' frm) t d y = true ↔ y = true ∧ OkT by' frm t d)) ?_ t
  intro op n s k C N W Q m ok K G _ _ ih d y
  rw [runT_nd, OkT_nd]
  have hf := foldF_and (P := fun i => OkT by' frm (K i) (d + bindI op m i)) (g := fun i z => runT (stSh by' frm) (K i) (d + bindI op m i) z) y (n := m) fun i z hi => ih i hi _ z
  split
  · rename_i hv
    show (if frm ≤ n - d then foldF (fun i z => runT (stSh by' frm) (K i) (d + bindI op m i) z) m y && decide (frm ≤ n + by' - d) else foldF (fun i z => runT (stSh by' frm) (K i) (d + bindI op m i) z) m y) = true ↔ _
    split
    · rename_i h
      rw [Bool.and_eq_true, hf, decide_eq_true_iff]
      constructor
      · rintro ⟨⟨h1, h2⟩, h3⟩; exact ⟨h1, fun _ _ => h3, h2⟩
      · rintro ⟨h1, h2, h3⟩; exact ⟨⟨h1, h3⟩, h2 hv h⟩
    · rename_i h
      rw [hf]
      constructor
      · rintro ⟨h1, h2⟩; exact ⟨h1, fun _ h3 => absurd h3 h, h2⟩
      · rintro ⟨h1, _, h3⟩; exact ⟨h1, h3⟩
  · rename_i hv
    rw [hf]
    constructor
    · rintro ⟨h1, h2⟩; exact ⟨h1, fun h3 => absurd h3 hv, h2⟩
    · rintro ⟨h1, _, h3⟩; exact ⟨h1, h3⟩
theorem foldF_max {a : Nat → Int} (x y : Int) : ∀ n, foldF (fun i z => max z (a i)) n (max x y) = max x (foldF (fun i z => max z (a i)) n y)
  | 0 => rfl
  | n + 1 => by simp only [foldF]; rw [foldF_max]; omega
theorem foldF_ge {a : Nat → Int} (y : Int) : ∀ n, y ≤ foldF (fun i z => max z (a i)) n y
  | 0 => Int.le_refl _
  | n + 1 => by have := foldF_ge (a := a) y n; simp only [foldF]; omega
theorem freeT_ge (t : Tm) (d : Int) : 0 ≤ freeT t d := by
  refine Tm.walk (P := fun t => ∀ d, 0 ≤ freeT t d) ?_ t d
  intro op n s k C N W Q m ok K G _ _ _ d
  rw [freeT_nd]
  have := foldF_ge (a := fun i => freeT (K i) (d + bindI op m i)) (if IsV op n then max 0 (n - d + 1) else 0) m
  have h0 : (0 : Int) ≤ if IsV op n then max 0 (n - d + 1) else 0 := by split <;> omega
  omega
theorem runT_fr (t : Tm) : ∀ d y, 0 ≤ y → runT stFr t d y = max y (freeT t d) := by
  refine Tm.walk (P := fun t => ∀ d y, 0 ≤ y → runT stFr t d y = max y (freeT t d)) ?_ t
  intro op n s k C N W Q m ok K G _ _ ih d y hy
  rw [runT_nd, freeT_nd]
  have hf : ∀ j, j ≤ m → foldF (fun i z => runT stFr (K i) (d + bindI op m i) z) j y = foldF (fun i z => max z (freeT (K i) (d + bindI op m i))) j y := by
    intro j
    induction j with
    | zero => intro _; rfl
    | succ j ihj =>
      intro hj
      simp only [foldF]
      rw [ihj (by omega)]
      have h := foldF_ge (a := fun i => freeT (K i) (d + bindI op m i)) y j
      exact ih j (by omega) _ _ (by omega)
  rw [hf m (Nat.le_refl _)]
  have h := foldF_ge (a := fun i => freeT (K i) (d + bindI op m i)) y m
  have h2 := foldF_max (a := fun i => freeT (K i) (d + bindI op m i)) y 0 m
  rw [Int.max_eq_left hy] at h2
  have h3 := foldF_ge (a := fun i => freeT (K i) (d + bindI op m i)) 0 m
  split
  · unfold stFr
    have e : max (0 : Int) (n - d + 1) = max (n - d + 1) 0 := Int.max_comm _ _
    rw [e, foldF_max]
    omega
  · rw [h2]
end Go.VM

/- Laws of shifting and filling. -/
namespace Go.VM
open Go
set_option linter.unusedVariables false
set_option linter.unusedSimpArgs false
section
variable {op n n1 n2 : Int} {s : ByteArray} {k : Nat} {C : Nat → Int} {N : Nat → Nat} {W Q : Nat → Nat → Int} {m : Nat} {ok : TmOk op n s k N m} {K : Nat → Tm}
theorem nd_num (h : n1 = n2) {ok1 : TmOk op n1 s k N m} {ok2 : TmOk op n2 s k N m} {K' : Nat → Tm} (hK : ∀ i, i < m → K i = K' i) : Tm.nd op n1 s k C N W Q m ok1 K = .nd op n2 s k C N W Q m ok2 K' := by
  subst h
  exact nd_congr hK
/-- the number of a node, shifted -/
def shN (a frm op n d : Int) : Int := if IsV op n ∧ frm ≤ n - d then clampI (n + a) else n
theorem shN_ok (a frm d : Int) (ok : TmOk op n s k N m) : TmOk op (shN a frm op n d) s k N m := ⟨ok.op, by unfold shN; split; exact clampI_ok _; exact ok.n, ok.s, ok.k, ok.N, ok.m⟩
theorem setN_nd (x : Int) : setN x (.nd op n s k C N W Q m ok K) = .nd op (clampI x) s k C N W Q m ⟨ok.op, clampI_ok x, ok.s, ok.k, ok.N, ok.m⟩ K := rfl
theorem numT_nd : numT (.nd op n s k C N W Q m ok K) = n := rfl
theorem sh_nd (a frm d : Int) : mapT (fSh a frm) (.nd op n s k C N W Q m ok K) d = .nd op (shN a frm op n d) s k C N W Q m (shN_ok a frm d ok) fun i => mapT (fSh a frm) (K i) (d + bindI op m i) := by
  rw [mapT_nd]
  unfold fSh
  rw [numT_nd]
  split
  · rename_i hv
    split
    · rename_i h
      rw [setN_nd]
      exact nd_num (by unfold shN; rw [if_pos ⟨hv, h⟩]) fun i hi => rfl
    · rename_i h
      exact nd_num (by unfold shN; rw [if_neg fun x => h x.2]) fun i hi => rfl
  · rename_i hv
    exact nd_num (by unfold shN; rw [if_neg fun x => hv x.1]) fun i hi => rfl
end
theorem nodesT_sh (a frm : Int) (t : Tm) : ∀ d, nodesT (mapT (fSh a frm) t d) = nodesT t := by
  refine Tm.walk (P := fun t => ∀ d, nodesT (mapT (fSh a frm) t d) = nodesT t) ?_ t
  intro op n s k C N W Q m ok K G _ _ ih d
  rw [sh_nd, nodesT_nd, nodesT_nd, sumF_congr (f := fun i => nodesT (mapT (fSh a frm) (K i) (d + bindI op m i))) (g := fun i => nodesT (K i)) fun i hi => ih i hi _]
/-- all variables are at most that number -/
def NearT (b : Int) : Tm → Prop
  | .mk op n s k C N W Q m ok L => (op = 1 → n ≤ b) ∧ ∀ i : Fin m, NearT b (L i)
section
variable {op n n1 n2 : Int} {s : ByteArray} {k : Nat} {C : Nat → Int} {N : Nat → Nat} {W Q : Nat → Nat → Int} {m : Nat} {ok : TmOk op n s k N m} {K : Nat → Tm}
theorem NearT_nd (b : Int) : NearT b (.nd op n s k C N W Q m ok K) ↔ (op = 1 → n ≤ b) ∧ ∀ i : Nat, i < m → NearT b (K i) := by
  have e : NearT b (.nd op n s k C N W Q m ok K) ↔ (op = 1 → n ≤ b) ∧ ∀ i : Fin m, NearT b (K i) := by simp only [Tm.nd, NearT]
  rw [e]
  exact and_congr Iff.rfl ⟨fun h i hi => h ⟨i, hi⟩, fun h i => h i i.2⟩
end
theorem sh_zero (frm : Int) (t : Tm) : ∀ d, mapT (fSh 0 frm) t d = t := by
  refine Tm.walk (P := fun t => ∀ d, mapT (fSh 0 frm) t d = t) ?_ t
  intro op n s k C N W Q m ok K G _ _ ih d
  rw [sh_nd]
  refine nd_num ?_ fun i hi => ih i hi _
  unfold shN
  split
  · rw [Int.add_zero, clampI_eq ok.n]
  · rfl
theorem OkT_up {a : Int} (ha : 0 ≤ a) (frm : Int) (t : Tm) : ∀ d, OkT a frm t d := by
  refine Tm.walk (P := fun t => ∀ d, OkT a frm t d) ?_ t
  intro op n s k C N W Q m ok K G _ _ ih d
  rw [OkT_nd]
  exact ⟨fun _ _ => by omega, fun i hi => ih i hi _⟩
/-- shifted, and shifted once more, from where the first ones came to stand -/
theorem sh_sh {a b c e : Int} (ha : 0 ≤ a ∧ a ≤ 2000000) (hb : -a ≤ b ∧ b ≤ 2000000) (hc : 0 ≤ c) (he : 0 ≤ e ∧ e ≤ a) {f : Int} (hf : 0 ≤ f) (t : Tm) : NearT 2000000 t → ∀ d, 0 ≤ d → mapT (fSh b f) (mapT (fSh a f) t d) (d + e) = mapT (fSh (a + b) f) t d := by
  refine Tm.walk (P := fun t => NearT 2000000 t → ∀ d, 0 ≤ d → mapT (fSh b f) (mapT (fSh a f) t d) (d + e) = mapT (fSh (a + b) f) t d) ?_ t
  intro op n s k C N W Q m ok K G _ _ ih hn d hd
  rw [NearT_nd] at hn
  rw [sh_nd, sh_nd, sh_nd]
  refine nd_num ?_ fun i hi => ?_
  · have hok := ok.n
    have h1 := hn.1
    by_cases hv : IsV op n ∧ f ≤ n - d
    · have hv2 := hv
      obtain ⟨⟨v1, v2, v3⟩, v4⟩ := hv
      have h1 := h1 v1
      have e1 : shN a f op n d = n + a := by unfold shN; rw [if_pos hv2, clampI_eq (by omega)]
      have e2 : shN (a + b) f op n d = n + (a + b) := by unfold shN; rw [if_pos hv2, clampI_eq (by omega)]
      rw [e1, e2]
      unfold shN
      rw [if_pos ⟨⟨v1, by omega, by omega⟩, by omega⟩, clampI_eq (by omega)]
      omega
    · have e1 : shN a f op n d = n := by unfold shN; rw [if_neg hv]
      have e2 : shN (a + b) f op n d = n := by unfold shN; rw [if_neg hv]
      rw [e1, e2]
      unfold shN
      rw [if_neg fun x => hv ⟨x.1, by have := x.2; omega⟩]
  · have := bindI_le op m i
    have h := ih i hi (hn.2 i hi) (d + bindI op m i) (by omega)
    rw [show d + e + bindI op m i = d + bindI op m i + e by omega]
    exact h
theorem OkT_back {a b : Int} (ha : 0 ≤ a ∧ a ≤ 2000000) (hb : -a ≤ b) {f : Int} (hf : 0 ≤ f) (t : Tm) : NearT 2000000 t → ∀ d, 0 ≤ d → OkT b f (mapT (fSh a f) t d) d := by
  refine Tm.walk (P := fun t => NearT 2000000 t → ∀ d, 0 ≤ d → OkT b f (mapT (fSh a f) t d) d) ?_ t
  intro op n s k C N W Q m ok K G _ _ ih hn d hd
  rw [NearT_nd] at hn
  rw [sh_nd, OkT_nd]
  refine ⟨?_, fun i hi => ?_⟩
  · have h1 := hn.1
    unfold shN
    split
    · rename_i h
      obtain ⟨⟨v1, v2, v3⟩, v4⟩ := h
      have h1 := h1 v1
      rw [clampI_eq (by omega)]
      intro _ _
      omega
    · rename_i h
      intro h2 h3
      exact absurd ⟨h2, h3⟩ h
  · have := bindI_le op m i
    exact ih i hi (hn.2 i hi) _ (by omega)
/-- a variable, filled -/
def fFl (len : Nat) (B : Nat → Tm) (x : Tm) (d : Int) : Tm := if numT x - d < 0 then x else if numT x - d < len then mapT (fSh d 0) (B (numT x - d).toNat) 0 else setN (numT x - len) x
section
variable {op n n1 n2 : Int} {s : ByteArray} {k : Nat} {C : Nat → Int} {N : Nat → Nat} {W Q : Nat → Nat → Int} {m : Nat} {ok : TmOk op n s k N m} {K : Nat → Tm}
theorem fl_out (len : Nat) (B : Nat → Tm) (d : Int) (h : IsV op n → n - d < 0) : mapT (fFl len B) (.nd op n s k C N W Q m ok K) d = .nd op n s k C N W Q m ok fun i => mapT (fFl len B) (K i) (d + bindI op m i) := by
  rw [mapT_nd]
  split
  · rename_i hv
    unfold fFl
    rw [numT_nd, if_pos (h hv)]
  · rfl
theorem fl_in (len : Nat) (B : Nat → Tm) (d : Int) (hv : IsV op n) (h0 : 0 ≤ n - d) (h : n - d < len) : mapT (fFl len B) (.nd op n s k C N W Q m ok K) d = mapT (fSh d 0) (B (n - d).toNat) 0 := by
  rw [mapT_nd, if_pos hv]
  unfold fFl
  rw [numT_nd, if_neg (by omega), if_pos h]
theorem fl_over (len : Nat) (B : Nat → Tm) (d : Int) (hv : IsV op n) (h : len ≤ n - d) (ok' : TmOk op (n - len) s k N m) : mapT (fFl len B) (.nd op n s k C N W Q m ok K) d = .nd op (n - len) s k C N W Q m ok' fun i => mapT (fFl len B) (K i) (d + bindI op m i) := by
  rw [mapT_nd, if_pos hv]
  unfold fFl
  rw [numT_nd, if_neg (by omega), if_neg (by omega), setN_nd]
  exact nd_num (clampI_eq ok'.n) fun i hi => rfl
end
/-- filled is shifted back -/
theorem fl_sh (len : Nat) (hl : len ≤ 2000000) (B : Nat → Tm) (t : Tm) : NearT 2000000 t → ∀ d, 0 ≤ d → mapT (fFl len B) (mapT (fSh len 0) t d) d = t := by
  refine Tm.walk (P := fun t => NearT 2000000 t → ∀ d, 0 ≤ d → mapT (fFl len B) (mapT (fSh len 0) t d) d = t) ?_ t
  intro op n s k C N W Q m ok K G _ _ ih hn d hd
  rw [NearT_nd] at hn
  have hk : ∀ i, i < m → mapT (fFl len B) (mapT (fSh len 0) (K i) (d + bindI op m i)) (d + bindI op m i) = K i := fun i hi => ih i hi (hn.2 i hi) _ (by have := bindI_le op m i; omega)
  have h1 := hn.1
  have hok := ok.n
  rw [sh_nd]
  by_cases hv : IsV op n ∧ 0 ≤ n - d
  · obtain ⟨⟨v1, v2, v3⟩, v4⟩ := hv
    have h1 := h1 v1
    have e : shN len 0 op n d = n + len := by unfold shN; rw [if_pos ⟨⟨v1, v2, v3⟩, v4⟩, clampI_eq (by omega)]
    rw [fl_over len B d (by rw [e]; exact ⟨v1, by omega, by omega⟩) (by rw [e]; omega) ⟨ok.op, by rw [e]; omega, ok.s, ok.k, ok.N, ok.m⟩]
    exact nd_num (by rw [e]; omega) hk
  · have e : shN len 0 op n d = n := by unfold shN; rw [if_neg hv]
    rw [fl_out len B d (by rw [e]; intro x; exact Int.not_le.1 fun h => hv ⟨x, h⟩)]
    exact nd_num e hk
theorem NearT.sh {b a : Int} (ha : 0 ≤ a) (frm : Int) (t : Tm) (hb : 0 ≤ b ∧ b + a ≤ 1000000000) : NearT b t → ∀ d, NearT (b + a) (mapT (fSh a frm) t d) := by
  refine Tm.walk (P := fun t => NearT b t → ∀ d, NearT (b + a) (mapT (fSh a frm) t d)) ?_ t
  intro op n s k C N W Q m ok K G _ _ ih hn d
  rw [NearT_nd] at hn
  rw [sh_nd, NearT_nd]
  refine ⟨fun h0 => ?_, fun i hi => ih i hi (hn.2 i hi) _⟩
  have h1 := hn.1 h0
  have hok := ok.n
  unfold shN
  split
  · rename_i h
    obtain ⟨⟨v1, v2, v3⟩, v4⟩ := h
    rw [clampI_eq (by omega)]; omega
  · omega
theorem NearT.mono {b a : Int} (h : b ≤ a) (t : Tm) : NearT b t → NearT a t := by
  refine Tm.walk (P := fun t => NearT b t → NearT a t) ?_ t
  intro op n s k C N W Q m ok K G _ _ ih hn
  rw [NearT_nd] at hn ⊢
  exact ⟨fun h0 => by have := hn.1 h0; omega, fun i hi => ih i hi (hn.2 i hi)⟩
/-- shifting goes along with filling -/
theorem fl_up (len : Nat) (hl : len ≤ 1000000) (B : Nat → Tm) (hB : ∀ i, i < len → NearT 2000000 (B i)) {a : Int} (ha : 0 ≤ a ∧ a ≤ 100000) (t : Tm) : NearT 2000000 t → ∀ d : Int, 0 ≤ d → d + 4 * nodesT t ≤ 1000000 →
    mapT (fFl len B) (mapT (fSh a 0) t d) (d + a) = mapT (fSh a 0) (mapT (fFl len B) t d) d := by
  refine Tm.walk (P := fun t => NearT 2000000 t → ∀ d : Int, 0 ≤ d → d + 4 * nodesT t ≤ 1000000 → mapT (fFl len B) (mapT (fSh a 0) t d) (d + a) = mapT (fSh a 0) (mapT (fFl len B) t d) d) ?_ t
  intro op n s k C N W Q m ok K G _ _ ih hn d hd hs
  rw [NearT_nd] at hn
  rw [nodesT_nd] at hs
  have hk : ∀ i, i < m → mapT (fFl len B) (mapT (fSh a 0) (K i) (d + bindI op m i)) (d + a + bindI op m i) = mapT (fSh a 0) (mapT (fFl len B) (K i) (d + bindI op m i)) (d + bindI op m i) := fun i hi => by
    have hb := bindI_le op m i
    have h1 := sumF_one (f := fun i => nodesT (K i)) hi
    have := ih i hi (hn.2 i hi) (d + bindI op m i) (by omega) (by omega)
    rw [show d + a + bindI op m i = d + bindI op m i + a by omega]
    exact this
  have h1 := hn.1
  have hok := ok.n
  rw [sh_nd]
  by_cases hv : IsV op n
  · have hv' := hv
    obtain ⟨v1, v2, v3⟩ := hv
    have h1 := h1 v1
    by_cases h0 : 0 ≤ n - d
    · have e : shN a 0 op n d = n + a := by unfold shN; rw [if_pos ⟨hv', h0⟩, clampI_eq (by omega)]
      by_cases hlt : n - d < len
      · rw [fl_in len B (d + a) (by rw [e]; exact ⟨v1, by omega, by omega⟩) (by rw [e]; omega) (by rw [e]; omega), fl_in len B d hv' h0 hlt]
        rw [show shN a 0 op n d - (d + a) = n - d by rw [e]; omega]
        have := sh_sh (a := d) (b := a) (c := 0) (e := d) ⟨hd, by omega⟩ ⟨by omega, by omega⟩ (Int.le_refl _) ⟨hd, Int.le_refl _⟩ (f := 0) (Int.le_refl _) (B (n - d).toNat) (hB _ (by omega)) 0 (Int.le_refl _)
        rw [Int.zero_add] at this
        exact this.symm
      · rw [fl_over len B (d + a) (by rw [e]; exact ⟨v1, by omega, by omega⟩) (by rw [e]; omega) ⟨ok.op, by rw [e]; omega, ok.s, ok.k, ok.N, ok.m⟩, fl_over len B d hv' (by omega) ⟨ok.op, by omega, ok.s, ok.k, ok.N, ok.m⟩, sh_nd]
        refine nd_num ?_ hk
        rw [e]
        unfold shN
        rw [if_pos ⟨⟨v1, by omega, by omega⟩, by omega⟩, clampI_eq (by omega)]
        omega
    · have e : shN a 0 op n d = n := by unfold shN; rw [if_neg fun x => h0 x.2]
      rw [fl_out len B (d + a) (by rw [e]; intro _; omega), fl_out len B d (fun _ => by omega), sh_nd]
      exact nd_num (by rw [e]) hk
  · have e : shN a 0 op n d = n := by unfold shN; rw [if_neg fun x => hv x.1]
    rw [fl_out len B (d + a) (by rw [e]; exact fun h => absurd h hv), fl_out len B d (fun h => absurd h hv), sh_nd]
    exact nd_num (by rw [e]) hk
/-- filled twice -/
theorem fl_fl (l m' : Nat) (hl : l ≤ 1000 ∧ m' ≤ 1000) (B M : Nat → Tm) (hB : ∀ i, i < l → NearT 2000000 (B i) ∧ 4 * nodesT (B i) ≤ 10000) (hM : ∀ i, i < m' → NearT 2000000 (M i)) (t : Tm) : NearT 2000000 t → ∀ d : Int, 0 ≤ d → d + 4 * nodesT t ≤ 10000 →
    mapT (fFl m' M) (mapT (fFl l B) t d) d = mapT (fFl (l + m') fun i => if i < l then mapT (fFl m' M) (B i) 0 else M (i - l)) t d := by
  refine Tm.walk (P := fun t => NearT 2000000 t → ∀ d : Int, 0 ≤ d → d + 4 * nodesT t ≤ 10000 → mapT (fFl m' M) (mapT (fFl l B) t d) d = mapT (fFl (l + m') fun i => if i < l then mapT (fFl m' M) (B i) 0 else M (i - l)) t d) ?_ t
  intro op n s k C N W Q m ok K G _ _ ih hn d hd hs
  rw [NearT_nd] at hn
  rw [nodesT_nd] at hs
  have hk := fun i (hi : i < m) => (by
    have hb := bindI_le op m i
    have h1 := sumF_one (f := fun i => nodesT (K i)) hi
    exact ih i hi (hn.2 i hi) (d + bindI op m i) (by omega) (by omega))
  have h1 := hn.1
  have hok := ok.n
  by_cases hv : IsV op n
  · have hv' := hv
    obtain ⟨v1, v2, v3⟩ := hv
    have h1 := h1 v1
    by_cases h0 : 0 ≤ n - d
    · by_cases hlt : n - d < l
      · rw [fl_in l B d hv' h0 hlt, fl_in (l + m') _ d hv' h0 (by omega)]
        rw [if_pos (by omega)]
        have hBi := hB (n - d).toNat (by omega)
        have := fl_up m' (by omega) M hM (a := d) ⟨hd, by omega⟩ (B (n - d).toNat) hBi.1 0 (Int.le_refl _) (by have := hBi.2; omega)
        rw [Int.zero_add] at this
        exact this
      · rw [fl_over l B d hv' (by omega) ⟨ok.op, by omega, ok.s, ok.k, ok.N, ok.m⟩]
        by_cases hlt2 : n - d < l + m'
        · rw [fl_in m' M d ⟨v1, by omega, by omega⟩ (by omega) (by omega), fl_in (l + m') _ d hv' h0 (by omega)]
          rw [if_neg (by omega)]
          rw [show (n - ↑l - d).toNat = (n - d).toNat - l by omega]
        · rw [fl_over m' M d ⟨v1, by omega, by omega⟩ (by omega) ⟨ok.op, by omega, ok.s, ok.k, ok.N, ok.m⟩, fl_over (l + m') _ d hv' (by omega) ⟨ok.op, by omega, ok.s, ok.k, ok.N, ok.m⟩]
          exact nd_num (by omega) hk
    · rw [fl_out l B d (fun _ => by omega), fl_out m' M d (fun _ => by omega), fl_out (l + m') _ d (fun _ => by omega)]
      exact nd_num rfl hk
  · rw [fl_out l B d (fun h => absurd h hv), fl_out m' M d (fun h => absurd h hv), fl_out (l + m') _ d (fun h => absurd h hv)]
    exact nd_num rfl hk
end Go.VM

namespace Go.VM
open Go
set_option linter.unusedVariables false
set_option linter.unusedSimpArgs false
set_option linter.unusedSectionVars false
/-- how much data there is -/
def szD : D → Nat
  | .sl len sz g => 1 + sumF (fun i => sumF (fun j => szD (g i j)) sz) len
  | _ => 1
theorem szD_sl (len sz : Nat) (g : Nat → Nat → D) : szD (.sl len sz g) = 1 + sumF (fun i => sumF (fun j => szD (g i j)) sz) len := by simp only [szD]
def szL : List D → Nat
  | [] => 0
  | d :: r => szD d + szL r
theorem szD_pos : ∀ d, 1 ≤ szD d
  | .sl len sz g => by unfold szD; omega
  | .int .. | .bool .. | .str .. | .nilp | .nilf | .nili => Nat.le_refl _
theorem szL_app : ∀ a b : List D, szL (a ++ b) = szL a + szL b
  | [], b => by simp [szL]
  | x :: a, b => by simp only [List.cons_append, szL, szL_app a b]; omega
theorem szL_row (l : List D) : ∀ n, n ≤ l.length → sumF (fun j => szD (l.getD j .nilp)) n = szL (l.take n)
  | 0, _ => rfl
  | n + 1, h => by
    have hn : n < l.length := by omega
    simp only [sumF]
    rw [szL_row l n (by omega), List.take_add_one, List.getElem?_eq_getElem hn, szL_app]
    simp [szL, List.getD_eq_getElem?_getD, List.getElem?_eq_getElem hn]
theorem szD_deq {x y : D} (h : Deq x y) : szD x = szD y := by
  induction h with
  | refl => rfl
  | nil => simp [szD, sumF]
  | sl len sz g g' _ ih =>
    unfold szD
    rw [sumF_congr (n := len) fun i hi => sumF_congr (n := sz) fun j hj => ih i j hi hj]
/-- a measure of what is read -/
structure Bulk {H : Type} (β : DataW H → Nat) (βs : List (DataW H) → Nat) : Prop where
  pos : ∀ d, 1 ≤ β d
  nil : βs [] = 0
  cons : ∀ d r, βs (d :: r) = β d + βs r
  agg : ∀ l, βs l ≤ β (.agg l)
  slice : ∀ l r, βs l + 1 ≤ β (.slice l r)
section
variable {H : Type} {enc : TypeId × Value → H} {P : Program} {w : World} {base : Nat} {sp : Nat → Bool} {held : Bool} {β : DataW H → Nat} {βs : List (DataW H) → Nat}
theorem Bulk.app (hβ : Bulk β βs) : ∀ a b, βs (a ++ b) = βs a + βs b
  | [], b => by simp [hβ.nil]
  | x :: a, b => by simp only [List.cons_append, hβ.cons, hβ.app a b]; omega
theorem Bulk.range (hβ : Bulk β βs) (D' : Nat → DataW H) : ∀ n, βs ((List.range n).map D') = sumF (fun i => β (D' i)) n
  | 0 => hβ.nil
  | n + 1 => by rw [List.range_succ, List.map_append, hβ.app, hβ.range D' n]; simp [sumF, hβ.cons, hβ.nil]
theorem fields_openS {ts : List TypeId} {m : Nat} (hβ : Bulk β βs) (ih : ∀ t cs x, t ∈ ts → DataW.trod enc P w base sp held m t cs = some x → ∃ ds : List D, (ds.length = cs.length ∧ cs.length = P.cellsOf t ∧ (∀ k, k < ds.length → RepD w (fun b _ => b < w.heap.size) (cs.getD k undef) (ds.getD k .nilp)) ∧ Shp P t ds) ∧ szL ds ≤ β x.1)
    (cs : List Value) : ∀ (l : List Field) (off : Nat) (xs : List (DataW H × List MemPlace)), (∀ f, f ∈ l → f.type ∈ ts) → seqF P off l cs.length = true → xs.length = l.length → (∀ (i : Nat) (f : Field), l[i]? = some f → DataW.trod enc P w base sp held m f.type (List.take (P.cellsOf f.type) (List.drop f.offset cs)) = xs[i]?) →
    ∃ ds : List D, (ds.length + off = cs.length ∧ (∀ k, k < ds.length → RepD w (fun b _ => b < w.heap.size) (cs.getD (off + k) undef) (ds.getD k .nilp)) ∧ ShpF P l ds) ∧ szL ds ≤ βs (xs.map (·.1))
  | [], off, xs, _, hs, hxl, _ => ⟨[], ⟨by simp only [seqF, Nat.beq_eq] at hs; simpa using hs, fun k hk => absurd hk (by simp), .nil⟩, by simp [szL]⟩
  | f :: r, off, xs, ht, hs, hxl, hx => by
    simp only [seqF, Bool.and_eq_true, Nat.beq_eq] at hs
    cases xs with
    | nil => simp at hxl
    | cons x0 xs =>
    have hx0 := hx 0 f rfl
    simp only [List.getElem?_cons_zero] at hx0
    obtain ⟨d1, ⟨h1, h2, h3, h4⟩, h5⟩ := ih _ _ x0 (ht f (by simp)) hx0
    obtain ⟨d2, ⟨k1, k2, k3⟩, k4⟩ := fields_openS hβ ih cs r (off + P.cellsOf f.type) xs (fun g hg => ht g (by simp [hg])) hs.2 (by simpa using hxl) (fun i g hg => by simpa using hx (i + 1) g (by simpa using hg))
    refine ⟨d1 ++ d2, ⟨by simp only [List.length_append]; omega, fun k hk => ?_, .cons h4 (h1.trans h2) k3⟩, by rw [szL_app, List.map_cons, hβ.cons]; omega⟩
    by_cases h : k < d1.length
    · have e1 : (d1 ++ d2).getD k .nilp = d1.getD k .nilp := by simp [List.getD_eq_getElem?_getD, List.getElem?_append, h]
      have e2 : (List.take (P.cellsOf f.type) (List.drop f.offset cs)).getD k undef = cs.getD (off + k) undef := by
        simp only [List.getD_eq_getElem?_getD, List.getElem?_take, List.getElem?_drop, hs.1]
        rw [if_pos (by omega)]
      rw [e1, ← e2]
      exact h3 k h
    · have e1 : (d1 ++ d2).getD k .nilp = d2.getD (k - d1.length) .nilp := by simp [List.getD_eq_getElem?_getD, List.getElem?_append, h]
      rw [e1]
      simp only [List.length_append] at hk
      have := k2 (k - d1.length) (by omega)
      rwa [show off + P.cellsOf f.type + (k - d1.length) = off + k by omega] at this
theorem trod_openS {ts : List TypeId} (hβ : Bulk β βs) (hts : ∀ t, t ∈ ts → plainT P ts t = true) : ∀ (fuel : Nat) (t : TypeId) (cs : List Value) (x : DataW H × List MemPlace), t ∈ ts → DataW.trod enc P w base sp held fuel t cs = some x →
    ∃ ds : List D, (ds.length = cs.length ∧ cs.length = P.cellsOf t ∧ (∀ k, k < ds.length → RepD w (fun b _ => b < w.heap.size) (cs.getD k undef) (ds.getD k .nilp)) ∧ Shp P t ds) ∧ szL ds ≤ β x.1
  | 0, t, cs, x, _, h => by simp [DataW.trod] at h
  | fuel + 1, t, cs, x, ht, h => by
    have hp := hts t ht
    have one : ∀ {v : Value} {d : D}, cs = [v] → RepD w (fun b _ => b < w.heap.size) v d → P.cellsOf t = 1 → Shp P t [d] → szD d ≤ β x.1 → ∃ ds : List D, (ds.length = cs.length ∧ cs.length = P.cellsOf t ∧ (∀ k, k < ds.length → RepD w (fun b _ => b < w.heap.size) (cs.getD k undef) (ds.getD k .nilp)) ∧ Shp P t ds) ∧ szL ds ≤ β x.1 := fun {v d} e hr hc hs hz => by
      subst e
      refine ⟨[d], ⟨rfl, by simp [hc], fun k hk => ?_, hs⟩, by simpa [szL] using hz⟩
      obtain rfl : k = 0 := by simpa using hk
      simpa using hr
    unfold plainT at hp
    split at hp
    · rename_i k hu
      obtain ⟨n, rfl, _, hw⟩ := DataW.trod_int hu h
      exact one rfl (.int k n) (by simpa using hp) (.int hu hw) (hβ.pos _)
    · rename_i hu
      obtain ⟨s, rfl, _, hs⟩ := DataW.trod_string hu h
      exact one rfl (.str s) (by simpa using hp) (.str hu hs) (hβ.pos _)
    · rename_i hu
      obtain ⟨b, rfl, _⟩ := DataW.trod_bool hu h
      exact one rfl (.bool b) (by simpa using hp) (.bool hu) (hβ.pos _)
    · rename_i e hu
      simp only [Bool.and_eq_true, Nat.beq_eq, Nat.blt_eq] at hp
      have he : e ∈ ts := by simpa using hp.1.1
      rcases DataW.trod_slice hu h with ⟨rfl, _⟩ | ⟨a, len, cap, elems, rest, n, hfu, rfl, hx, hb, hl, hm, hel, hall, _⟩
      · exact one (d := .sl 0 (P.cellsOf e) (fun _ _ => .nilp)) rfl (.sl0 _ _ _ _) hp.2 (.slice hu (Nat.zero_le _) fun i hi => absurd hi (Nat.not_lt_zero _)) (by simpa [szD, sumF] using hβ.pos _)
      · obtain rfl : fuel = n := by omega
        by_cases h0 : len = 0
        · subst h0
          exact one (d := .sl 0 (P.cellsOf e) (fun _ _ => .nilp)) rfl (.sl0 _ _ _ _) hp.2 (.slice hu (Nat.zero_le _) fun i hi => absurd hi (Nat.not_lt_zero _)) (by simpa [szD, sumF] using hβ.pos _)
        have each : ∀ i, i < len → ∃ cs' : List Value, ∃ ds : List D, (w.cells? base (a.add (i * P.cellsOf e)) (P.cellsOf e) = some cs' ∧ ds.length = cs'.length ∧ cs'.length = P.cellsOf e ∧ (∀ k, k < ds.length → RepD w (fun b _ => b < w.heap.size) (cs'.getD k undef) (ds.getD k .nilp)) ∧ Shp P e ds) ∧ szL ds ≤ β (elems.getD i (.nil, [])).1 := fun i hi => by
          have hy := hall i hi
          have hi2 : i < elems.length := by omega
          rw [List.getElem?_eq_getElem hi2] at hy
          cases hc : w.cells? base (a.add (i * P.cellsOf e)) (P.cellsOf e) with
          | none => rw [hc] at hy; cases hy
          | some cs' =>
            rw [hc] at hy
            obtain ⟨ds, ⟨d1, d2, d3, d4⟩, d5⟩ := trod_openS hβ hts fuel e cs' _ he hy
            exact ⟨cs', ds, ⟨rfl, d1, d2, d3, d4⟩, by rw [List.getD_eq_getElem?_getD, List.getElem?_eq_getElem hi2]; exact d5⟩
        let Q : Nat → List D := fun i => if h : i < len then (each i h).choose_spec.choose else []
        have hQ : ∀ i, i < len → ∃ cs' : List Value, w.cells? base (a.add (i * P.cellsOf e)) (P.cellsOf e) = some cs' ∧ (Q i).length = cs'.length ∧ cs'.length = P.cellsOf e ∧ (∀ k, k < (Q i).length → RepD w (fun b _ => b < w.heap.size) (cs'.getD k undef) ((Q i).getD k .nilp)) ∧ Shp P e (Q i) := fun i hi => by
          simp only [Q, dif_pos hi]
          exact ⟨_, (each i hi).choose_spec.choose_spec.1⟩
        have hQz : ∀ i, i < len → szL (Q i) ≤ β (elems.getD i (.nil, [])).1 := fun i hi => by
          simp only [Q, dif_pos hi]
          exact (each i hi).choose_spec.choose_spec.2
        have hcell : ∀ i j, i < len → j < P.cellsOf e → ∃ v, w.cell? (a.add (i * P.cellsOf e + j)) = some v ∧ RepD w (fun b _ => b < w.heap.size) v ((Q i).getD j .nilp) := fun i j hi hj => by
          obtain ⟨cs', q1, q2, q3, q4, q5⟩ := hQ i hi
          obtain ⟨_, c2, c3⟩ := World.cells?_some q1
          have := c3 j hj
          rw [Go.Deep.add_add] at this
          have hjl : j < cs'.length := by omega
          rw [List.getElem?_eq_getElem hjl] at this
          have q := q4 j (by omega)
          rw [List.getD_eq_getElem?_getD, List.getElem?_eq_getElem hjl] at q
          exact ⟨_, this, q⟩
        obtain ⟨v0, z0, _⟩ := hcell 0 0 (by omega) hp.1.2
        obtain ⟨b, o, spt⟩ := a
        simp only [Nat.zero_mul, Nat.zero_add] at z0
        have hsp : spt = none := by
          have z : w.cell? ((⟨b, o, spt⟩ : Addr).add 0) = some v0 := z0
          unfold World.cell? at z
          split at z
          · cases spt with
            | none => rfl
            | some x => simp [Addr.add] at z
          · cases z
        subst hsp
        have hadd : ∀ j, (⟨b, o, none⟩ : Addr).add j = ⟨b, o + j, none⟩ := fun j => by unfold Addr.add; split <;> simp_all
        have hlt : b < w.heap.size := by
          rw [hadd] at z0
          unfold World.cell? at z0
          split at z0
          · rename_i c _ _ hc; exact (Array.getElem?_eq_some_iff.1 hc).1
          · cases z0
        refine one (d := .sl len (P.cellsOf e) (fun i j => (Q i).getD j .nilp)) rfl (.sl b o len cap _ _ (fun i j => (w.cell? ⟨b, o + (i * P.cellsOf e + j), none⟩).getD undef) hl (fun i j hi hj => ⟨hlt, ?_⟩) (fun i j hi hj => ?_)) hp.2 (.slice hu (by omega) fun i hi => ?_) ?_
        · obtain ⟨v, h1, h2⟩ := hcell i j hi hj
          rw [hadd] at h1
          rw [h1]; rfl
        · obtain ⟨v, h1, h2⟩ := hcell i j hi hj
          rw [hadd] at h1
          rw [h1]; exact h2
        · obtain ⟨cs', q1, q2, q3, q4, q5⟩ := hQ i hi
          have : (List.range (P.cellsOf e)).map (fun j => (Q i).getD j .nilp) = Q i := by
            apply List.ext_getElem
            · simp; omega
            · intro k h1 h2
              simp [List.getD_eq_getElem?_getD, List.getElem?_eq_getElem h2]
          rw [this]; exact q5
        · rw [hx]
          refine Nat.le_trans ?_ (hβ.slice _ _)
          have e1 : ∀ l : List (DataW H × List MemPlace), βs (l.map (·.1)) = sumF (fun i => β (l.getD i (.nil, [])).1) l.length := fun l => by
            have h := hβ.range (fun i => (l.getD i (.nil, [])).1) l.length
            rw [← h]
            congr 1
            apply List.ext_getElem
            · simp
            · intro k h1 h2
              have h3 : k < l.length := by simpa using h1
              simp [List.getD_eq_getElem?_getD, List.getElem?_eq_getElem h3]
          rw [e1, hel, szD_sl]
          have h5 : sumF (fun i => sumF (fun j => szD ((Q i).getD j .nilp)) (P.cellsOf e)) len ≤ sumF (fun i => β (elems.getD i (.nil, [])).1) len := sumF_mono fun i hi => by
            obtain ⟨cs', q1, q2, q3, q4, q5⟩ := hQ i hi
            rw [szL_row (Q i) _ (by omega), List.take_of_length_le (by omega)]
            exact hQz i hi
          show 1 + sumF (fun i => sumF (fun j => szD ((Q i).getD j .nilp)) (P.cellsOf e)) len ≤ _
          omega
    · rename_i fs hu
      simp only [Bool.and_eq_true, List.all_eq_true] at hp
      obtain ⟨xs, n, hn, hxx, hlen, hlx, hfs⟩ := DataW.trod_struct hu h
      obtain rfl : fuel = n := by omega
      obtain ⟨ds, ⟨h1, h2, h3⟩, h4⟩ := fields_openS (enc := enc) (base := base) (sp := sp) (held := held) (ts := ts) (m := fuel) hβ (fun t cs x ht h => trod_openS hβ hts fuel t cs x ht h) cs fs.toList 0 xs (fun f hf => by simpa using hp.1 f hf) (by rw [hlen]; exact hp.2) (by simpa using hlx) (fun i f hf => hfs i f (by simpa using hf))
      exact ⟨ds, ⟨by omega, hlen, fun k hk => by simpa using h2 k hk, .struct hu h3⟩, by rw [hxx]; exact Nat.le_trans h4 (hβ.agg _)⟩
    · cases hp
end
theorem sumF5 (f : Nat → Nat) : sumF f 5 = f 0 + f 1 + f 2 + f 3 + f 4 := by simp [sumF]
theorem nodes_sz (t : Tm) : nodesT t ≤ sumF (fun j => szD (tmD t j)) 5 := by
  refine Tm.walk (P := fun t => nodesT t ≤ sumF (fun j => szD (tmD t j)) 5) ?_ t
  intro op n s k C N W Q m ok K G _ _ ih
  obtain ⟨h0, h1, h2, h3, h4⟩ := tmD_nd op n s k C N W Q m ok K
  rw [nodesT_nd, sumF5, h0, h1, h2, h3, h4, szD_sl, szD_sl]
  have e1 : sumF (fun i => 1 + N i) k ≤ sumF (fun i => sumF (fun j => szD (lsF C N W Q i j)) 2) k := sumF_mono fun i hi => by
    simp only [sumF, lsF, szD, Nat.zero_add]
    have : N i ≤ sumF (fun i_1 => szD (lvF (W i) (Q i) i_1 0) + szD (lvF (W i) (Q i) i_1 1)) (N i) := sumF_ge (fun z => by have := szD_pos (lvF (W i) (Q i) z 0); omega) (N i)
    omega
  have e2 : sumF (fun i => nodesT (K i)) m ≤ sumF (fun i => sumF (fun j => szD (if h : i < m then tmD (K i) j else .nilp)) 5) m := sumF_mono fun i hi => by
    simp only [dif_pos hi]
    exact ih i hi
  have p1 := szD_pos (.int .i64 op)
  omega
end Go.VM

namespace Go.VM
open Go Go.ChangeShapes Go.WideShapes Go.ChangeAt Go.RowKit
set_option linter.unusedVariables false
set_option linter.unusedSimpArgs false
set_option linter.unusedSectionVars false
variable [Glb]
theorem law_lifted3 {C : Checked} {os : Os} {f : FuncId} {fn : Func} {s : ChangeSpec} {kc : (H : Type) → List (DataW H) → Bool} {laid : List (String × DataW Unit)} {tb : TypeId} (H : Type) (enc : TypeId × Value → H) (F : Stop.Interp)
    (own : ownKnob C.prog.godebug = none) (started : os.Started) (noInit : C.prog.inits.idxOf? f = none) (hfn : C.prog.funcs[f]? = some fn)
    (hvars : s.vars = []) (hrt : fn.resultTypes = #[tb]) (hb : C.prog.underlying tb = some .bool)
    (hsp : ∀ ds : List (DataW H), ds.length = fn.params.size → s.fn H ds = { results := [.lit (.bool true)], args := ds })
    (hlo : laidOutB C.prog = true) (hrd : ∀ t ∈ fn.params.toList, C.prog.readableRec t = true ∧ t < C.prog.types.size)
    (witness : ∃ (w : World) (tape : Tape) (i : Input), w.os = os ∧ (w.forCall tape i).Shaped C.prog ∧ i.vars = [] ∧ Input.okWide C.prog (w.forCall tape i) .any w.heap.size f i ∧
      ({ OpenSpec.ofChange s with cond := some kc } : OpenSpec).preRow enc C.prog fn [] false laid (w.forCall tape i).memory i.args ∧ ({} : Assume).holds C.prog (lone (Frame.enter C.prog f i.args .normal) [] (w.forCall tape i)))
    (hglob : ∀ W : World, laidMetH C.prog laid W → W.ShapedOpen C.prog → ∀ b k v, Glb.G b k v → b < W.heap.size ∧ W.cell? ⟨b, k, none⟩ = v)
    (law : ∀ (W : World) (base : Nat) (args : Array Value) (ds : List (DataW H)) (p : List MemPlace), (∀ (j : Nat) t v, fn.params[j]? = some t → args[j]? = some v → Value.okWide C.prog W .any base t v) →
      DataW.TrodAll enc C.prog W 0 (fun _ => true) true fn.params.toList args.toList ds p → kc H ds = true →
      ∃ xs : List A, VFun C.prog f xs (fun r => r = .d (.bool true)) ∧ args.toList.length = xs.length ∧ ∀ k, k < xs.length → RepA W (fun b _ => b < W.heap.size) (fun _ => none) [] (args.toList.getD k undef) (xs.getD k .undef)) :
    ReturnsInHanded {} C os f .any (({ OpenSpec.ofChange s with cond := some kc } : OpenSpec).preRow enc C.prog fn [] false laid) ((({ OpenSpec.ofChange s with cond := some kc } : OpenSpec).at F).post enc C.prog fn false true false false) := by
  refine returnsInHanded_of_row (C := C) (s := { OpenSpec.ofChange s with cond := some kc }) own started noInit hfn witness ?_
  intro W base args ds gs before hval hW _ hkc _ hL hsh _
  have hW' := hW
  obtain ⟨p, q, hA, hV, rfl, _, _⟩ := hW
  have hV2 : DataW.TrodVars enc C.prog W (fun _ => true) [] gs q := by rw [← hvars]; exact hV
  obtain ⟨rfl, rfl⟩ := trodVars_none hV2
  obtain ⟨xs, hf, hlen, hrep⟩ := law W base args ds p hval hA (by have := hkc kc rfl; rwa [List.append_nil] at this)
  have hdl : ds.length = fn.params.size := by
    have : ∀ (ts : List TypeId) (vs : List Value) (ds : List (DataW H)) (ps : List MemPlace), DataW.TrodAll enc C.prog W 0 (fun _ => true) true ts vs ds ps → ds.length = ts.length := by
      intro ts
      induction ts with
      | nil =>
        intro vs ds ps h
        obtain ⟨rfl, rfl, rfl⟩ := trodAll_nil h
        rfl
      | cons t ts ih =>
        intro vs ds ps h
        obtain ⟨v, vs', d, ds', p, q, rfl, rfl, rfl, hd, hrest⟩ := trodAll_cons h
        simp [ih _ _ _ hrest]
    simpa using this _ _ _ _ hA
  letI lim : Lim := ⟨fun _ _ => True⟩
  have hrel : Rel (fun k => k < W.heap.size) (fun _ => none) (fun b _ => b < W.heap.size) W [] :=
    ⟨fun _ h => h, fun b k h => h, fun b k h _ => trivial, fun b k v h => hglob W hL hsh b k v h, fun o x h => by simp at h, fun o o' x x' b h => by simp at h⟩
  have hargs : RepL W (fun b _ => b < W.heap.size) (fun _ => none) [] args.toList xs := ⟨hlen, hrep⟩
  have hc := hf [] lim _ _ _ _ _ hrel hargs
  refine hc.mono ?_
  rintro e W' ⟨v, r, H', ι', I', rfl, ⟨rfl, rfl⟩, hrel', hr, hk⟩
  have hv : v = .bool true := by
    cases hr with | d _ _ h => cases h; rfl
  subst hv
  have hbel : Go.RowKit.Below W.heap.size W W' := ⟨hk.below.os, hk.below.tape, hk.below.output, hk.below.size, fun k hk2 => hk.below.block k hk2 hk2⟩
  have e1 : (s.fn H (ds ++ [])) = { results := [.lit (.bool true)], args := ds } := by rw [List.append_nil]; exact hsp ds hdl
  have e2 : (({ OpenSpec.ofChange s with cond := some kc } : OpenSpec).at F).fn H (ds ++ []) = { results := [.lit (.bool true)], args := ds } := e1
  simp only [List.append_nil] at hW' 
  refine ⟨_, rfl, ds, [], p, [], p, [], hW', ?_, ?_, ?_, hbel.frame _, fun h => by cases h⟩
  · rw [e2, hrt]
    exact trodAll_mk1 ⟨1, by simp [DataW.trod, Value.cells, hb]⟩
  · rw [e2]
    exact trodAll_below hlo hbel _ _ _ _ hrd (fun x hx => by simpa using hW'.lt x hx) hA
  · rw [e2]
    show DataW.TrodVars enc C.prog W' _ s.vars [] []
    rw [hvars]
    rfl
end Go.VM

/- Two lists of terms as an argument, and how great they are. -/
namespace Go.VM
open Go.Proofs Go Go.ChangeShapes Go.WideShapes Go.ChangeAt Go.RowKit
open Go.Proofs.YtfbecfnagidioaaDoor
set_option maxRecDepth 100000
set_option linter.unusedVariables false
variable {H : Type} {enc : TypeId × Value → H} {W : World} {base b0 : Nat} {sp : Nat → Bool} {held : Bool} {r : Reach} {v : Value} {d : DataW H} {ps : List MemPlace} {β : DataW H → Nat} {βs : List (DataW H) → Nat}
def argTs2 : List TypeId := 42 :: argTs
theorem argTs2_ok : ∀ t, t ∈ argTs2 → plainT Tryd.prog argTs2 t = true := List.all_eq_true.1 (by kernel_rfl)
theorem terms_shp {d : D} (h : Shp Tryd.prog 23 [d]) : ∃ (m : Nat) (g G : Nat → Nat → D) (K : Nat → Tm), d = .sl m 5 g ∧ m < 2 ^ 63 ∧ Deq (.sl m 5 g) (.sl m 5 G) ∧ (∀ i, i < m → tm (K i) = kid G i) ∧ ∀ i, i < m → nodesT (K i) ≤ szD d := by
  obtain ⟨m, g, e, w7, hall⟩ := h.slice_inv Tryd.underlying23
  have c : Tryd.prog.cellsOf 25 = 5 := by kernel_rfl
  rw [c] at hall e
  simp only [List.cons.injEq, and_true] at e
  subst e
  have each : ∀ i, i < m → ∃ t, Col t (g i 0) (g i 1) (g i 2) (g i 3) (g i 4) := fun i hi => term_shp (g i 4) _ _ _ _ (hall i hi)
  let K : Nat → Tm := fun i => if h : i < m then (each i h).choose else .leaf
  have hK : ∀ i, i < m → Col (K i) (g i 0) (g i 1) (g i 2) (g i 3) (g i 4) := fun i hi => by
    simp only [K, dif_pos hi]
    exact (each i hi).choose_spec
  refine ⟨m, g, fun i j => tmD (K i) j, K, rfl, by unfold maxLen at w7; omega, .sl _ _ _ _ fun i j hi hj => ?_, fun i hi => rfl, fun i hi => ?_⟩
  · obtain ⟨q0, q1, q2, q3, q4⟩ := hK i hi
    match j, hj with
    | 0, _ => exact q0
    | 1, _ => exact q1
    | 2, _ => exact q2
    | 3, _ => exact q3
    | 4, _ => exact q4
  · refine Nat.le_trans (nodes_sz (K i)) ?_
    obtain ⟨q0, q1, q2, q3, q4⟩ := hK i hi
    have h1 := sumF_one (f := fun i => sumF (fun j => szD (g i j)) 5) hi
    rw [szD_sl]
    have h2 : sumF (fun j => szD (tmD (K i) j)) 5 = sumF (fun j => szD (g i j)) 5 := by
      rw [sumF5, sumF5, szD_deq q0, szD_deq q1, szD_deq q2, szD_deq q3, szD_deq q4]
    rw [h2]
    omega
theorem open_lists (hβ : Bulk β βs) (hval : Value.okWide Tryd.prog W r b0 42 v) (hd : DataW.Trod enc Tryd.prog W base sp held 42 v d ps) :
    ∃ (l m : Nat) (GL GM : Nat → Nat → D) (L M : Nat → Tm), l < 2 ^ 63 ∧ m < 2 ^ 63 ∧ (∀ i, i < l → tm (L i) = kid GL i) ∧ (∀ i, i < m → tm (M i) = kid GM i) ∧ (∀ i, i < m → nodesT (M i) ≤ β d) ∧
      ∀ ι H, RepA W (fun b _ => b < W.heap.size) ι H v (.agg [.d (.sl l 5 GL), .d (.sl m 5 GM)]) := by
  have lim : Lim := ⟨fun _ _ => True⟩
  obtain ⟨cs, rfl, hsz⟩ := okWide_struct Tryd.underlying42 hval
  obtain ⟨fuel, hf⟩ := hd
  obtain ⟨ds, ⟨h1, h2, h3, h4⟩, h5⟩ := trod_openS hβ argTs2_ok fuel 42 _ _ (by decide) hf
  have c : Tryd.prog.cellsOf 42 = 2 := by kernel_rfl
  have hl : ds.length = 2 := by rw [h1, h2, c]
  have h := h4.struct_inv Tryd.underlying42
  generalize hd : ds = ds' at h
  cases h with | @cons _ _ d1 d2 g1 k1 g2 =>
  cases g2 with | @cons _ _ d3 d4 g3 k3 g4 =>
  cases g4
  have e1 : d1.length = 1 := k1.trans (by kernel_rfl)
  have e3 : d3.length = 1 := k3.trans (by kernel_rfl)
  match d1, e1, d3, e3 with
  | [x], _, [y], _ =>
  obtain ⟨l, gl, GL, L, rfl, l1, l2, l3, l4⟩ := terms_shp g1
  obtain ⟨m, gm, GM, M, rfl, m1, m2, m3, m4⟩ := terms_shp g3
  subst hd
  refine ⟨l, m, GL, GM, L, M, l1, m1, l3, m3, fun i hi => ?_, fun ι H => .agg cs.toList _ ?_ fun k hk => ?_⟩
  · have := m4 i hi
    simp only [List.cons_append, List.nil_append, szL] at h5
    omega
  · simpa [Value.cells] using h1.symm
  · match k, hk with
    | 0, _ => exact .d _ _ ((h3 0 (by simp)).deq l2)
    | 1, _ => exact .d _ _ ((h3 1 (by simp)).deq m2)
end Go.VM

namespace Go.VM
open Go.Proofs Go
set_option maxRecDepth 100000
set_option linter.unusedVariables false
set_option linter.unusedSimpArgs false
/-- how the sum of what is counted goes on -/
def CntS (T A : Nat) (f : Nat → Nat) (most i x : Nat) : Prop := (x ≤ most → x = A + sumF f i) ∧ (most < x → most < T) ∧ x ≤ 2 * most + 2
theorem CntS.next {T A : Nat} {f : Nat → Nat} {most i x y : Nat} (h : CntS T A f most i x) (hx : x ≤ most) (hT : A + sumF f (i + 1) ≤ T) (hy : y ≤ most + 1) (h1 : x + y ≤ most → y = f i) (h2 : most < x + y → most < x + f i) : CntS T A f most (i + 1) (x + y) := by
  obtain ⟨a1, a2, a3⟩ := h
  have e := a1 hx
  simp only [sumF] at hT ⊢
  refine ⟨fun h => ?_, fun h => ?_, by omega⟩
  · rw [h1 h]
    simp only [sumF]
    omega
  · have := h2 h; omega
set_option maxHeartbeats 1000000 in
theorem Nodes (t : Tm) : ∀ most : Nat, most < 2 ^ 28 → VFun (P ()) 58 [tm t, .d (.int .i64 most)] (fun r => ∃ x : Nat, x = min (nodesT t) (most + 1) ∧ r = .d (.int .i64 x)) := by
  refine Tm.walk (P := fun t => ∀ most : Nat, most < 2 ^ 28 → VFun (P ()) 58 [tm t, .d (.int .i64 most)] (fun r => ∃ x : Nat, x = min (nodesT t) (most + 1) ∧ r = .d (.int .i64 x))) ?_ t
  clear t
  intro op n s k C N W Q m ok K G hG e ih most hm
  rw [e, nodesT_nd]
  clear e
  obtain ⟨tot, hT⟩ : ∃ tot, tot = 1 + sumF (fun i => 1 + N i) k + sumF (fun i => nodesT (K i)) m := ⟨_, rfl⟩
  rw [← hT]
  have okk := ok.k
  have okm := ok.m
  have okN := ok.N
  refine vfunO (Tf := fun {_} _ => fzT [2] (T ())) (fun {_} => tabOk.frz [2]) [] 400 Tryd.func58 rfl (fun {_} => by kernel_rfl) rfl (Nat.le_of_ble_eq_true rfl) @fun ⟨_, _, _, _, _, _, _, _, _, _, _, _, _, _, _, _, _, _, _, _, _, _, _, _, _, _, _, _, _, _, _, _, _, _, _, _, _, _, wp, wf⟩ R hR => ?_
  cbv
  try simp only [wp, (show ∀ n : Nat, _ = n from fun n => wf.2.2.2.2.2.2.2.2.2.2.2.2.2.1 (Int.ofNat n)), getL, takeL, dropL, TK.isAgg, reduceIte]
  replace hR := fun x H h => hR _ H (.d (.int .i64 (x : Nat))) (.d _) ⟨x, h, rfl⟩
  obtain ⟨Sk, hSk⟩ : ∃ Sk, Sk = sumF (fun i => 1 + N i) k := ⟨_, rfl⟩
  rw [← hSk] at hT
  refine loopO (Tf := fun {_} _ => fzT [2] (T ())) (fun {_} => tabOk.frz [2]) [] 400 (fun y : Nat × Nat => ⟨[.undef, .d (.int .i64 most), .iptr (fun x j => getL [.int .i64 op, .int .i64 n, .str s, .sl k 2 (lsF C N W Q), .sl m 5 G] j .nilp) 0 0 5, .undef, .d (.int .i64 0), .d (.int .i64 y.2), .d (.int .i64 y.1), .undef, .undef, .undef, .undef, .undef, .undef, .undef, .undef, .undef, .undef, .undef, .undef, .undef, .undef, .undef, .undef, .undef, .undef, .undef, .undef, .undef, .undef, .undef, .undef, .undef, .undef, .undef, .undef, .undef, .undef, .undef, .undef, .undef, .undef, .undef, .undef, .undef, .undef, .undef, .undef, .undef, .undef, .undef, .undef, .undef, .undef, .undef, .undef, .undef, .undef, .undef, .undef], []⟩) (fun y => k - y.1) (fun y => y.1 ≤ k ∧ CntS tot 1 (fun i => 1 + N i) most y.1 y.2) (0, 1) ⟨Nat.zero_le _, fun _ => rfl, fun h => by omega, by omega⟩ (fun {_} => by kernel_rfl) ?_ (fun i => by kernel_rfl) @fun ⟨_, _, _, _, _, _, _, _, _, _, _, _, _, _, _, _, _, _, _, _, _, _, _, _, _, _, _, _, _, _, _, _, _, _, _, _, _, _, wpa, wfa⟩ ⟨i, x⟩ Bk hi hBk => ?_
  · ((cbv; try simp only [wf, exD, exL, exT, exB, exA, leLs, leL_d, leL_undef, leL_nils, leA_nils, deq_refl, deq_int, deq_bool, deq_str, and_true, true_and, AObj.iter.injEq, nc, nc']; try simp (disch := omega) only [w64, w32, wu8]); first | done | rfl | omega | (simp; done) | (simp; omega) | skip)
  obtain ⟨i1, i2⟩ := hi
  dsimp only at i1 i2
  (cbv; try simp only [wp, (show ∀ n : Nat, _ = n from fun n => wf.2.2.2.2.2.2.2.2.2.2.2.2.2.1 (Int.ofNat n)), (show _ = (0 : Nat) from wf.2.2.2.2.2.2.2.2.2.2.2.2.2.1 0), wpa, (show ∀ n : Nat, _ = n from fun n => wfa.2.2.2.2.2.2.2.2.2.2.2.2.2.1 (Int.ofNat n)), (show _ = (0 : Nat) from wfa.2.2.2.2.2.2.2.2.2.2.2.2.2.1 0), getL, takeL, dropL, TK.isAgg, reduceIte])
  refine ⟨fun e1 => ⟨fun e2 => ?_, fun e2 => ?_⟩, fun e1 => ?_⟩
  · have e1 : i < k := (by (try simp only [wf, wfa, nc, nc', Int.toNat_natCast, bsz, ByteArray.size_append, List.length_cons, List.length_nil] at *); (try simp (disch := omega) only [w64, w32, wu8] at *); first | done | omega)
    have e2 : x ≤ most := (by (try simp only [wf, wfa, nc, nc', Int.toNat_natCast, bsz, ByteArray.size_append, List.length_cons, List.length_nil] at *); (try simp (disch := omega) only [w64, w32, wu8] at *); first | done | omega)
    have oN := okN i
    have hle := sumF_one (f := fun i => 1 + N i) e1
    (refine Later.mk ?_; cbv; try simp only [wp, (show ∀ n : Nat, _ = n from fun n => wf.2.2.2.2.2.2.2.2.2.2.2.2.2.1 (Int.ofNat n)), (show _ = (0 : Nat) from wf.2.2.2.2.2.2.2.2.2.2.2.2.2.1 0), wpa, (show ∀ n : Nat, _ = n from fun n => wfa.2.2.2.2.2.2.2.2.2.2.2.2.2.1 (Int.ofNat n)), (show _ = (0 : Nat) from wfa.2.2.2.2.2.2.2.2.2.2.2.2.2.1 0), getL, takeL, dropL, TK.isAgg, reduceIte])
    repeat' first | with_reducible refine And.intro ?_ ?_ | intro c9
    all_goals first | exact (by (try simp only [wf, wfa, nc, nc', Int.toNat_natCast, bsz, ByteArray.size_append, List.length_cons, List.length_nil] at *); (try simp (disch := omega) only [w64, w32, wu8] at *); first | done | omega) | trivial | skip
    obtain ⟨z, hz⟩ : ∃ z, z = x + (1 + min (N i) most) := ⟨_, rfl⟩
    have hn : CntS tot 1 (fun i => 1 + N i) most (i + 1) z := by
      rw [hz]
      exact i2.next e2 (by have := sumF_le (f := fun i => 1 + N i) (i := i + 1) e1; rw [← hSk] at this; omega) (by omega) (fun h => by omega) (fun h => by omega)
    refine hBk (i + 1, z) _ (by dsimp only; omega) ⟨by dsimp only; omega, hn⟩ ?_
    (cbv; try simp only [wf, wfa, exD, exL, exT, exB, exA, leLs, leL_d, leL_undef, leL_nils, leA_nils, deq_refl, deq_int, deq_bool, deq_str, and_true, true_and, AObj.iter.injEq, nc, nc']; try simp (disch := omega) only [w64, w32, wu8])
    exact ⟨by omega, rfl⟩
  all_goals
    have hz : CntS tot (1 + Sk) (fun i => nodesT (K i)) most 0 x := by
      obtain ⟨a1, a2, a3⟩ := i2
      refine ⟨fun h => ?_, a2, a3⟩
      first
      | (have e2 : most < x := (by (try simp only [wf, wfa, nc, nc', Int.toNat_natCast, bsz, ByteArray.size_append, List.length_cons, List.length_nil] at *); (try simp (disch := omega) only [w64, w32, wu8] at *); first | done | omega)
         omega)
      | (obtain rfl : i = k := (by (try simp only [wf, wfa, nc, nc', Int.toNat_natCast, bsz, ByteArray.size_append, List.length_cons, List.length_nil] at *); (try simp (disch := omega) only [w64, w32, wu8] at *); first | done | omega)
         rw [a1 h, ← hSk]
         rfl)
    clear i2 hBk
    (refine Later.mk ?_; cbv; try simp only [wp, (show ∀ n : Nat, _ = n from fun n => wf.2.2.2.2.2.2.2.2.2.2.2.2.2.1 (Int.ofNat n)), (show _ = (0 : Nat) from wf.2.2.2.2.2.2.2.2.2.2.2.2.2.1 0), wpa, (show ∀ n : Nat, _ = n from fun n => wfa.2.2.2.2.2.2.2.2.2.2.2.2.2.1 (Int.ofNat n)), (show _ = (0 : Nat) from wfa.2.2.2.2.2.2.2.2.2.2.2.2.2.1 0), getL, takeL, dropL, TK.isAgg, reduceIte])
    repeat' first | with_reducible refine And.intro ?_ ?_ | intro c9
    all_goals first | exact (by (try simp only [wf, wfa, nc, nc', Int.toNat_natCast, bsz, ByteArray.size_append, List.length_cons, List.length_nil] at *); (try simp (disch := omega) only [w64, w32, wu8] at *); first | done | omega) | trivial | skip
    refine loopO (Tf := fun {_} _ => fzT [2] (T ())) (fun {_} => tabOk.frz [2]) [] 400 (fun y : Nat × Nat => ⟨[.undef, .d (.int .i64 most), .iptr (fun x j => getL [.int .i64 op, .int .i64 n, .str s, .sl k 2 (lsF C N W Q), .sl m 5 G] j .nilp) 0 0 5, .undef, .d (.int .i64 0), .d (.int .i64 y.2), .undef, .d (.int .i64 y.1), .undef, .undef, .undef, .undef, .undef, .undef, .undef, .undef, .undef, .undef, .undef, .undef, .undef, .undef, .undef, .undef, .undef, .undef, .undef, .undef, .undef, .undef, .undef, .undef, .undef, .undef, .undef, .undef, .undef, .undef, .undef, .undef, .undef, .undef, .undef, .undef, .undef, .undef, .undef, .undef, .undef, .undef, .undef, .undef, .undef, .undef, .undef, .undef, .undef, .undef, .undef], []⟩) (fun y => m - y.1) (fun y => y.1 ≤ m ∧ CntS tot (1 + Sk) (fun i => nodesT (K i)) most y.1 y.2) (0, x) ⟨Nat.zero_le _, hz⟩ (fun {_} => by kernel_rfl) ?_ (fun i => by kernel_rfl) @fun ⟨_, _, _, _, _, _, _, _, _, _, _, _, _, _, _, _, _, _, _, _, _, _, _, _, _, _, _, _, _, _, _, _, _, _, _, _, _, _, wpb, wfb⟩ ⟨j, x2⟩ Bk hj hBk => ?_
    · ((cbv; try simp only [wf, exD, exL, exT, exB, exA, leLs, leL_d, leL_undef, leL_nils, leA_nils, deq_refl, deq_int, deq_bool, deq_str, and_true, true_and, AObj.iter.injEq, nc, nc']; try simp (disch := omega) only [w64, w32, wu8]); first | done | rfl | omega | (simp; done) | (simp; omega) | skip)
    obtain ⟨j1, j2⟩ := hj
    dsimp only at j1 j2
    (cbv; try simp only [wp, (show ∀ n : Nat, _ = n from fun n => wf.2.2.2.2.2.2.2.2.2.2.2.2.2.1 (Int.ofNat n)), (show _ = (0 : Nat) from wf.2.2.2.2.2.2.2.2.2.2.2.2.2.1 0), wpa, (show ∀ n : Nat, _ = n from fun n => wfa.2.2.2.2.2.2.2.2.2.2.2.2.2.1 (Int.ofNat n)), (show _ = (0 : Nat) from wfa.2.2.2.2.2.2.2.2.2.2.2.2.2.1 0), wpb, (show ∀ n : Nat, _ = n from fun n => wfb.2.2.2.2.2.2.2.2.2.2.2.2.2.1 (Int.ofNat n)), (show _ = (0 : Nat) from wfb.2.2.2.2.2.2.2.2.2.2.2.2.2.1 0), getL, takeL, dropL, TK.isAgg, reduceIte])
    refine ⟨fun e3 => ⟨fun e4 => ?_, fun e4 => ?_⟩, fun e3 => ?_⟩
    · have e3 : j < m := (by (try simp only [wf, wfa, wfb, nc, nc', Int.toNat_natCast, bsz, ByteArray.size_append, List.length_cons, List.length_nil] at *); (try simp (disch := omega) only [w64, w32, wu8] at *); first | done | omega)
      have e4 : x2 ≤ most := (by (try simp only [wf, wfa, wfb, nc, nc', Int.toNat_natCast, bsz, ByteArray.size_append, List.length_cons, List.length_nil] at *); (try simp (disch := omega) only [w64, w32, wu8] at *); first | done | omega)
      have hle := sumF_one (f := fun i => nodesT (K i)) e3
      have ihj := ih j e3 (most - x2) (by omega)
      rw [hG j e3] at ihj
      (refine Later.mk ?_; cbv; try simp only [wp, (show ∀ n : Nat, _ = n from fun n => wf.2.2.2.2.2.2.2.2.2.2.2.2.2.1 (Int.ofNat n)), (show _ = (0 : Nat) from wf.2.2.2.2.2.2.2.2.2.2.2.2.2.1 0), wpa, (show ∀ n : Nat, _ = n from fun n => wfa.2.2.2.2.2.2.2.2.2.2.2.2.2.1 (Int.ofNat n)), (show _ = (0 : Nat) from wfa.2.2.2.2.2.2.2.2.2.2.2.2.2.1 0), wpb, (show ∀ n : Nat, _ = n from fun n => wfb.2.2.2.2.2.2.2.2.2.2.2.2.2.1 (Int.ofNat n)), (show _ = (0 : Nat) from wfb.2.2.2.2.2.2.2.2.2.2.2.2.2.1 0), getL, takeL, dropL, TK.isAgg, reduceIte])
      repeat' first | with_reducible refine And.intro ?_ ?_ | intro c9
      all_goals first | exact (by (try simp only [wf, wfa, wfb, nc, nc', Int.toNat_natCast, bsz, ByteArray.size_append, List.length_cons, List.length_nil] at *); (try simp (disch := omega) only [w64, w32, wu8] at *); first | done | omega) | trivial | skip
      refine CallW.args (args' := [kid G j, .d (.int .i64 ((most - x2 : Nat) : Int))]) (fun {_ _} => ⟨⟨_, rfl, .refl _, .refl _, .refl _, .refl _, .refl _, trivial⟩, (Deq.of_eq (congrArg (D.int .i64) (by (try simp only [wf, wfa, wfb, nc, nc', Int.toNat_natCast, bsz, ByteArray.size_append, List.length_cons, List.length_nil] at *); (try simp (disch := omega) only [w64, w32, wu8] at *); first | done | omega))), trivial⟩) (ihj.call ?_)
      rintro _ ⟨x3, hx3, rfl⟩
      (cbv; try simp only [wp, (show ∀ n : Nat, _ = n from fun n => wf.2.2.2.2.2.2.2.2.2.2.2.2.2.1 (Int.ofNat n)), (show _ = (0 : Nat) from wf.2.2.2.2.2.2.2.2.2.2.2.2.2.1 0), wpa, (show ∀ n : Nat, _ = n from fun n => wfa.2.2.2.2.2.2.2.2.2.2.2.2.2.1 (Int.ofNat n)), (show _ = (0 : Nat) from wfa.2.2.2.2.2.2.2.2.2.2.2.2.2.1 0), wpb, (show ∀ n : Nat, _ = n from fun n => wfb.2.2.2.2.2.2.2.2.2.2.2.2.2.1 (Int.ofNat n)), (show _ = (0 : Nat) from wfb.2.2.2.2.2.2.2.2.2.2.2.2.2.1 0), getL, takeL, dropL, TK.isAgg, reduceIte])
      have hn : CntS tot (1 + Sk) (fun i => nodesT (K i)) most (j + 1) (x2 + x3) :=
        j2.next e4 (by have := sumF_le (f := fun i => nodesT (K i)) (i := j + 1) e3; omega) (by omega) (fun h => by omega) (fun h => by omega)
      obtain ⟨z, hz⟩ : ∃ z, z = x2 + x3 := ⟨_, rfl⟩
      rw [← hz] at hn
      repeat' first | with_reducible refine And.intro ?_ ?_ | intro c9
      all_goals first | exact (by (try simp only [wf, wfa, wfb, nc, nc', Int.toNat_natCast, bsz, ByteArray.size_append, List.length_cons, List.length_nil] at *); (try simp (disch := omega) only [w64, w32, wu8] at *); first | done | omega) | trivial | skip
      refine hBk (j + 1, z) _ (by dsimp only; omega) ⟨by dsimp only; omega, hn⟩ ?_
      (cbv; try simp only [wf, wfa, wfb, exD, exL, exT, exB, exA, leLs, leL_d, leL_undef, leL_nils, leA_nils, deq_refl, deq_int, deq_bool, deq_str, and_true, true_and, AObj.iter.injEq, nc, nc']; try simp (disch := omega) only [w64, w32, wu8])
      exact ⟨by omega, rfl⟩
    all_goals
      have hfin : x2 = tot ∨ (most < x2 ∧ most < tot) := by
        obtain ⟨a1, a2, a3⟩ := j2
        first
        | (have e4 : most < x2 := (by (try simp only [wf, wfa, wfb, nc, nc', Int.toNat_natCast, bsz, ByteArray.size_append, List.length_cons, List.length_nil] at *); (try simp (disch := omega) only [w64, w32, wu8] at *); first | done | omega)
           exact .inr ⟨e4, a2 e4⟩)
        | (obtain rfl : j = m := (by (try simp only [wf, wfa, wfb, nc, nc', Int.toNat_natCast, bsz, ByteArray.size_append, List.length_cons, List.length_nil] at *); (try simp (disch := omega) only [w64, w32, wu8] at *); first | done | omega)
           by_cases e5 : x2 ≤ most
           · exact .inl (by rw [hT, a1 e5])
           · exact .inr ⟨by omega, a2 (by omega)⟩)
      (refine Later.mk ?_; cbv; try simp only [wp, (show ∀ n : Nat, _ = n from fun n => wf.2.2.2.2.2.2.2.2.2.2.2.2.2.1 (Int.ofNat n)), (show _ = (0 : Nat) from wf.2.2.2.2.2.2.2.2.2.2.2.2.2.1 0), wpa, (show ∀ n : Nat, _ = n from fun n => wfa.2.2.2.2.2.2.2.2.2.2.2.2.2.1 (Int.ofNat n)), (show _ = (0 : Nat) from wfa.2.2.2.2.2.2.2.2.2.2.2.2.2.1 0), wpb, (show ∀ n : Nat, _ = n from fun n => wfb.2.2.2.2.2.2.2.2.2.2.2.2.2.1 (Int.ofNat n)), (show _ = (0 : Nat) from wfb.2.2.2.2.2.2.2.2.2.2.2.2.2.1 0), getL, takeL, dropL, TK.isAgg, reduceIte])
      repeat' first | with_reducible refine And.intro ?_ ?_ | intro c9
      all_goals first | exact (by (try simp only [wf, wfa, wfb, nc, nc', Int.toNat_natCast, bsz, ByteArray.size_append, List.length_cons, List.length_nil] at *); (try simp (disch := omega) only [w64, w32, wu8] at *); first | done | omega) | trivial | skip
      ((try simp only [wf, wfa, wfb, nc, nc', Int.toNat_natCast, bsz, ByteArray.size_append, List.length_cons, List.length_nil] at *); (try simp (disch := omega) only [w64, w32, wu8] at *))
      refine (congrArg (fun z => R (.d (.int .i64 z)) _) (?_ : _ = ((min tot (most + 1) : Nat) : Int))).mpr (hR (min tot (most + 1)) _ rfl)
      split <;> omega
end Go.VM
