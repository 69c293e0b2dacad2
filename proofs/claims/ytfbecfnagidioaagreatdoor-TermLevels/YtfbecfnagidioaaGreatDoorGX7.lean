/- Part of the proof: TermZ, M10, M11, MT1, MT2, LLT, LLM, LV1, LV2, LV3, LV4. -/
import Derived.Test.YtfbecfnagidioaaGreatDoorProg
import Derived.Lib.ItoaNum
import Derived.Test.YtfbecfnagidioaaGreatDoorRows
import Derived.Lib.LaidTab
import Derived.Test.YtfbecfnagidioaaGreatDoorGV4
import Derived.Test.YtfbecfnagidioaaGreatDoorGV5
/- The seat's types, as the logic of abstract states reads them. -/

set_option maxRecDepth 100000
namespace Go.VM
def tbl : Tables where
  n := 247
  m := 272
  bare := [0, 1, 179, 211, 225, 230, 242, 243, 244, 245, 246, 247, 248, 249, 250, 251, 252, 253, 254, 255, 256, 257, 258, 259, 260, 261, 262, 263, 264, 265, 266, 267, 268, 269, 270]
  eqs := [(44, [.int, .int]), (84, [.str, .int, .int]), (88, [.str, .int, .int, .bool]), (112, [.str, .int, .int])]
  bld := 78
  tree := (.node (.node (.node (.node (.node (.node (.node (.node .nil
 (some ⟨.func, 1, 8, [.d .nilf]⟩) .nil)
 (some ⟨.func, 1, 8, [.d .nilf]⟩) (.node .nil
 (some ⟨(.pointer 171), 1, 8, [.d .nilp]⟩) .nil))
 (some ⟨.func, 1, 8, [.d .nilf]⟩) (.node (.node .nil
 (some ⟨.func, 1, 8, [.d .nilf]⟩) .nil)
 (some ⟨.func, 1, 8, [.d .nilf]⟩) .nil))
 (some ⟨(.pointer 236), 1, 8, [.d .nilp]⟩) (.node (.node (.node .nil
 (some ⟨.func, 1, 8, [.d .nilf]⟩) .nil)
 (some ⟨.func, 1, 8, [.d .nilf]⟩) (.node .nil
 (some ⟨.func, 1, 8, [.d .nilf]⟩) .nil))
 (some ⟨.func, 1, 8, [.d .nilf]⟩) (.node (.node .nil
 (some ⟨(.pointer 3), 1, 8, [.d .nilp]⟩) .nil)
 (some ⟨(.struct [(0, 9), (1, 3), (2, 3)]), 3, 32, [.d (.str ⟨#[]⟩), .d (.int .i64 (0)), .d (.int .i64 (0))]⟩) (.node .nil
 (some ⟨(.struct [(0, 237)]), 0, 0, []⟩) .nil))))
 (some ⟨(.struct [(0, 2), (1, 3), (2, 4), (3, 6)]), 4, 24, [.d (.int .i64 (0)), .d (.int .i64 (0)), .d (.bool false), .d (.int .u8 (0))]⟩) (.node (.node (.node (.node .nil
 (some ⟨.func, 1, 8, [.d .nilf]⟩) .nil)
 (some ⟨.func, 1, 8, [.d .nilf]⟩) (.node .nil
 (some ⟨(.int .i64), 1, 8, [.d (.int .i64 (0))]⟩) .nil))
 (some ⟨(.slice 44), 1, 24, [.nils]⟩) (.node (.node .nil
 (some ⟨.func, 1, 8, [.d .nilf]⟩) .nil)
 (some ⟨.func, 1, 8, [.d .nilf]⟩) (.node .nil
 (some ⟨(.array 256 5), 256, 256, [.d (.int .u8 (0)), .d (.int .u8 (0)), .d (.int .u8 (0)), .d (.int .u8 (0)), .d (.int .u8 (0)), .d (.int .u8 (0)), .d (.int .u8 (0)), .d (.int .u8 (0)), .d (.int .u8 (0)), .d (.int .u8 (0)), .d (.int .u8 (0)), .d (.int .u8 (0)), .d (.int .u8 (0)), .d (.int .u8 (0)), .d (.int .u8 (0)), .d (.int .u8 (0)), .d (.int .u8 (0)), .d (.int .u8 (0)), .d (.int .u8 (0)), .d (.int .u8 (0)), .d (.int .u8 (0)), .d (.int .u8 (0)), .d (.int .u8 (0)), .d (.int .u8 (0)), .d (.int .u8 (0)), .d (.int .u8 (0)), .d (.int .u8 (0)), .d (.int .u8 (0)), .d (.int .u8 (0)), .d (.int .u8 (0)), .d (.int .u8 (0)), .d (.int .u8 (0)), .d (.int .u8 (0)), .d (.int .u8 (0)), .d (.int .u8 (0)), .d (.int .u8 (0)), .d (.int .u8 (0)), .d (.int .u8 (0)), .d (.int .u8 (0)), .d (.int .u8 (0)), .d (.int .u8 (0)), .d (.int .u8 (0)), .d (.int .u8 (0)), .d (.int .u8 (0)), .d (.int .u8 (0)), .d (.int .u8 (0)), .d (.int .u8 (0)), .d (.int .u8 (0)), .d (.int .u8 (0)), .d (.int .u8 (0)), .d (.int .u8 (0)), .d (.int .u8 (0)), .d (.int .u8 (0)), .d (.int .u8 (0)), .d (.int .u8 (0)), .d (.int .u8 (0)), .d (.int .u8 (0)), .d (.int .u8 (0)), .d (.int .u8 (0)), .d (.int .u8 (0)), .d (.int .u8 (0)), .d (.int .u8 (0)), .d (.int .u8 (0)), .d (.int .u8 (0)), .d (.int .u8 (0)), .d (.int .u8 (0)), .d (.int .u8 (0)), .d (.int .u8 (0)), .d (.int .u8 (0)), .d (.int .u8 (0)), .d (.int .u8 (0)), .d (.int .u8 (0)), .d (.int .u8 (0)), .d (.int .u8 (0)), .d (.int .u8 (0)), .d (.int .u8 (0)), .d (.int .u8 (0)), .d (.int .u8 (0)), .d (.int .u8 (0)), .d (.int .u8 (0)), .d (.int .u8 (0)), .d (.int .u8 (0)), .d (.int .u8 (0)), .d (.int .u8 (0)), .d (.int .u8 (0)), .d (.int .u8 (0)), .d (.int .u8 (0)), .d (.int .u8 (0)), .d (.int .u8 (0)), .d (.int .u8 (0)), .d (.int .u8 (0)), .d (.int .u8 (0)), .d (.int .u8 (0)), .d (.int .u8 (0)), .d (.int .u8 (0)), .d (.int .u8 (0)), .d (.int .u8 (0)), .d (.int .u8 (0)), .d (.int .u8 (0)), .d (.int .u8 (0)), .d (.int .u8 (0)), .d (.int .u8 (0)), .d (.int .u8 (0)), .d (.int .u8 (0)), .d (.int .u8 (0)), .d (.int .u8 (0)), .d (.int .u8 (0)), .d (.int .u8 (0)), .d (.int .u8 (0)), .d (.int .u8 (0)), .d (.int .u8 (0)), .d (.int .u8 (0)), .d (.int .u8 (0)), .d (.int .u8 (0)), .d (.int .u8 (0)), .d (.int .u8 (0)), .d (.int .u8 (0)), .d (.int .u8 (0)), .d (.int .u8 (0)), .d (.int .u8 (0)), .d (.int .u8 (0)), .d (.int .u8 (0)), .d (.int .u8 (0)), .d (.int .u8 (0)), .d (.int .u8 (0)), .d (.int .u8 (0)), .d (.int .u8 (0)), .d (.int .u8 (0)), .d (.int .u8 (0)), .d (.int .u8 (0)), .d (.int .u8 (0)), .d (.int .u8 (0)), .d (.int .u8 (0)), .d (.int .u8 (0)), .d (.int .u8 (0)), .d (.int .u8 (0)), .d (.int .u8 (0)), .d (.int .u8 (0)), .d (.int .u8 (0)), .d (.int .u8 (0)), .d (.int .u8 (0)), .d (.int .u8 (0)), .d (.int .u8 (0)), .d (.int .u8 (0)), .d (.int .u8 (0)), .d (.int .u8 (0)), .d (.int .u8 (0)), .d (.int .u8 (0)), .d (.int .u8 (0)), .d (.int .u8 (0)), .d (.int .u8 (0)), .d (.int .u8 (0)), .d (.int .u8 (0)), .d (.int .u8 (0)), .d (.int .u8 (0)), .d (.int .u8 (0)), .d (.int .u8 (0)), .d (.int .u8 (0)), .d (.int .u8 (0)), .d (.int .u8 (0)), .d (.int .u8 (0)), .d (.int .u8 (0)), .d (.int .u8 (0)), .d (.int .u8 (0)), .d (.int .u8 (0)), .d (.int .u8 (0)), .d (.int .u8 (0)), .d (.int .u8 (0)), .d (.int .u8 (0)), .d (.int .u8 (0)), .d (.int .u8 (0)), .d (.int .u8 (0)), .d (.int .u8 (0)), .d (.int .u8 (0)), .d (.int .u8 (0)), .d (.int .u8 (0)), .d (.int .u8 (0)), .d (.int .u8 (0)), .d (.int .u8 (0)), .d (.int .u8 (0)), .d (.int .u8 (0)), .d (.int .u8 (0)), .d (.int .u8 (0)), .d (.int .u8 (0)), .d (.int .u8 (0)), .d (.int .u8 (0)), .d (.int .u8 (0)), .d (.int .u8 (0)), .d (.int .u8 (0)), .d (.int .u8 (0)), .d (.int .u8 (0)), .d (.int .u8 (0)), .d (.int .u8 (0)), .d (.int .u8 (0)), .d (.int .u8 (0)), .d (.int .u8 (0)), .d (.int .u8 (0)), .d (.int .u8 (0)), .d (.int .u8 (0)), .d (.int .u8 (0)), .d (.int .u8 (0)), .d (.int .u8 (0)), .d (.int .u8 (0)), .d (.int .u8 (0)), .d (.int .u8 (0)), .d (.int .u8 (0)), .d (.int .u8 (0)), .d (.int .u8 (0)), .d (.int .u8 (0)), .d (.int .u8 (0)), .d (.int .u8 (0)), .d (.int .u8 (0)), .d (.int .u8 (0)), .d (.int .u8 (0)), .d (.int .u8 (0)), .d (.int .u8 (0)), .d (.int .u8 (0)), .d (.int .u8 (0)), .d (.int .u8 (0)), .d (.int .u8 (0)), .d (.int .u8 (0)), .d (.int .u8 (0)), .d (.int .u8 (0)), .d (.int .u8 (0)), .d (.int .u8 (0)), .d (.int .u8 (0)), .d (.int .u8 (0)), .d (.int .u8 (0)), .d (.int .u8 (0)), .d (.int .u8 (0)), .d (.int .u8 (0)), .d (.int .u8 (0)), .d (.int .u8 (0)), .d (.int .u8 (0)), .d (.int .u8 (0)), .d (.int .u8 (0)), .d (.int .u8 (0)), .d (.int .u8 (0)), .d (.int .u8 (0)), .d (.int .u8 (0)), .d (.int .u8 (0)), .d (.int .u8 (0)), .d (.int .u8 (0)), .d (.int .u8 (0)), .d (.int .u8 (0)), .d (.int .u8 (0)), .d (.int .u8 (0)), .d (.int .u8 (0)), .d (.int .u8 (0)), .d (.int .u8 (0)), .d (.int .u8 (0)), .d (.int .u8 (0)), .d (.int .u8 (0)), .d (.int .u8 (0)), .d (.int .u8 (0)), .d (.int .u8 (0))]⟩) .nil)))
 (some ⟨(.slice 25), 1, 24, [.nils]⟩) (.node (.node (.node .nil
 (some ⟨(.int .u64), 1, 8, [.d (.int .u64 (0))]⟩) .nil)
 (some ⟨(.struct [(0, 9), (1, 3), (2, 3), (3, 4)]), 4, 40, [.d (.str ⟨#[]⟩), .d (.int .i64 (0)), .d (.int .i64 (0)), .d (.bool false)]⟩) (.node .nil
 (some ⟨.func, 1, 8, [.d .nilf]⟩) .nil))
 none (.node (.node .nil
 (some ⟨.func, 1, 8, [.d .nilf]⟩) .nil)
 (some ⟨.func, 1, 8, [.d .nilf]⟩) .nil))))
 (some ⟨(.int .i64), 1, 8, [.d (.int .i64 (0))]⟩) (.node (.node (.node (.node (.node .nil
 (some ⟨.func, 1, 8, [.d .nilf]⟩) .nil)
 (some ⟨.func, 1, 8, [.d .nilf]⟩) .nil)
 (some ⟨.func, 1, 8, [.d .nilf]⟩) (.node (.node .nil
 (some ⟨.func, 1, 8, [.d .nilf]⟩) .nil)
 (some ⟨.func, 1, 8, [.d .nilf]⟩) (.node .nil
 (some ⟨(.struct [(0, 9)]), 1, 16, [.d (.str ⟨#[]⟩)]⟩) .nil)))
 (some ⟨(.struct [(0, 17)]), 1, 8, [.d .nilp]⟩) (.node (.node (.node .nil
 (some ⟨.func, 1, 8, [.d .nilf]⟩) .nil)
 (some ⟨(.struct [(0, 9), (1, 3), (2, 3)]), 3, 32, [.d (.str ⟨#[]⟩), .d (.int .i64 (0)), .d (.int .i64 (0))]⟩) (.node .nil
 (some ⟨.func, 1, 8, [.d .nilf]⟩) .nil))
 (some ⟨.func, 1, 8, [.d .nilf]⟩) (.node (.node .nil
 (some ⟨.func, 1, 8, [.d .nilf]⟩) .nil)
 none (.node .nil
 (some ⟨(.int .i32), 1, 4, [.d (.int .i32 (0))]⟩) .nil))))
 (some ⟨.string, 1, 16, [.d (.str ⟨#[]⟩)]⟩) (.node (.node (.node (.node .nil
 (some ⟨.func, 1, 8, [.d .nilf]⟩) .nil)
 (some ⟨(.pointer 78), 1, 8, [.d .nilp]⟩) (.node .nil
 (some ⟨.func, 1, 8, [.d .nilf]⟩) .nil))
 (some ⟨(.struct [(0, 3), (1, 3)]), 2, 16, [.d (.int .i64 (0)), .d (.int .i64 (0))]⟩) (.node (.node .nil
 (some ⟨(.int .u64), 1, 8, [.d (.int .u64 (0))]⟩) .nil)
 (some ⟨.func, 1, 8, [.d .nilf]⟩) (.node .nil
 (some ⟨(.struct [(0, 17), (1, 17), (2, 17), (3, 9)]), 4, 40, [.d .nilp, .d .nilp, .d .nilp, .d (.str ⟨#[]⟩)]⟩) .nil)))
 (some ⟨.func, 1, 8, [.d .nilf]⟩) (.node (.node (.node .nil
 (some ⟨.func, 1, 8, [.d .nilf]⟩) .nil)
 (some ⟨.func, 1, 8, [.d .nilf]⟩) (.node .nil
 (some ⟨.func, 1, 8, [.d .nilf]⟩) .nil))
 (some ⟨.func, 1, 8, [.d .nilf]⟩) (.node (.node .nil
 (some ⟨.func, 1, 8, [.d .nilf]⟩) .nil)
 (some ⟨(.pointer 5), 1, 8, [.d .nilp]⟩) .nil)))))
 (some ⟨.func, 1, 8, [.d .nilf]⟩) (.node (.node (.node (.node (.node (.node .nil
 (some ⟨.func, 1, 8, [.d .nilf]⟩) .nil)
 (some ⟨.func, 1, 8, [.d .nilf]⟩) (.node .nil
 (some ⟨(.array 24 5), 24, 24, [.d (.int .u8 (0)), .d (.int .u8 (0)), .d (.int .u8 (0)), .d (.int .u8 (0)), .d (.int .u8 (0)), .d (.int .u8 (0)), .d (.int .u8 (0)), .d (.int .u8 (0)), .d (.int .u8 (0)), .d (.int .u8 (0)), .d (.int .u8 (0)), .d (.int .u8 (0)), .d (.int .u8 (0)), .d (.int .u8 (0)), .d (.int .u8 (0)), .d (.int .u8 (0)), .d (.int .u8 (0)), .d (.int .u8 (0)), .d (.int .u8 (0)), .d (.int .u8 (0)), .d (.int .u8 (0)), .d (.int .u8 (0)), .d (.int .u8 (0)), .d (.int .u8 (0))]⟩) .nil))
 (some ⟨.func, 1, 8, [.d .nilf]⟩) (.node (.node .nil
 (some ⟨.func, 1, 8, [.d .nilf]⟩) .nil)
 (some ⟨(.slice 44), 1, 24, [.nils]⟩) (.node .nil
 (some ⟨.func, 1, 8, [.d .nilf]⟩) .nil)))
 (some ⟨(.pointer 246), 1, 8, [.d .nilp]⟩) (.node (.node (.node .nil
 (some ⟨.func, 1, 8, [.d .nilf]⟩) .nil)
 (some ⟨.func, 1, 8, [.d .nilf]⟩) (.node .nil
 (some ⟨(.array 20 151), 20, 160, [.d (.int .u64 (0)), .d (.int .u64 (0)), .d (.int .u64 (0)), .d (.int .u64 (0)), .d (.int .u64 (0)), .d (.int .u64 (0)), .d (.int .u64 (0)), .d (.int .u64 (0)), .d (.int .u64 (0)), .d (.int .u64 (0)), .d (.int .u64 (0)), .d (.int .u64 (0)), .d (.int .u64 (0)), .d (.int .u64 (0)), .d (.int .u64 (0)), .d (.int .u64 (0)), .d (.int .u64 (0)), .d (.int .u64 (0)), .d (.int .u64 (0)), .d (.int .u64 (0))]⟩) .nil))
 (some ⟨(.slice 9), 1, 24, [.nils]⟩) (.node .nil
 none (.node .nil
 (some ⟨(.int .u8), 1, 1, [.d (.int .u8 (0))]⟩) .nil))))
 (some ⟨.string, 1, 16, [.d (.str ⟨#[]⟩)]⟩) (.node (.node (.node (.node .nil
 (some ⟨.func, 1, 8, [.d .nilf]⟩) .nil)
 none (.node .nil
 (some ⟨.func, 1, 8, [.d .nilf]⟩) .nil))
 (some ⟨(.struct [(0, 3), (1, 39)]), 2, 32, [.d (.int .i64 (0)), .nils]⟩) (.node (.node .nil
 (some ⟨.func, 1, 8, [.d .nilf]⟩) .nil)
 (some ⟨.func, 1, 8, [.d .nilf]⟩) (.node .nil
 (some ⟨(.struct [(0, 5), (1, 5)]), 2, 2, [.d (.int .u8 (0)), .d (.int .u8 (0))]⟩) .nil)))
 (some ⟨(.struct [(0, 3), (1, 3), (2, 9), (3, 22), (4, 23)]), 5, 80, [.d (.int .i64 (0)), .d (.int .i64 (0)), .d (.str ⟨#[]⟩), .nils, .nils]⟩) (.node (.node (.node .nil
 (some ⟨.func, 1, 8, [.d .nilf]⟩) .nil)
 (some ⟨.func, 1, 8, [.d .nilf]⟩) (.node .nil
 (some ⟨(.struct [(0, 9), (1, 9), (2, 116)]), 3, 48, [.d (.str ⟨#[]⟩), .d (.str ⟨#[]⟩), .d .nili]⟩) .nil))
 (some ⟨.func, 1, 8, [.d .nilf]⟩) (.node (.node .nil
 (some ⟨.func, 1, 8, [.d .nilf]⟩) .nil)
 (some ⟨.func, 1, 8, [.d .nilf]⟩) .nil))))
 (some ⟨(.int .u8), 1, 1, [.d (.int .u8 (0))]⟩) (.node (.node (.node (.node (.node .nil
 (some ⟨.func, 1, 8, [.d .nilf]⟩) .nil)
 (some ⟨.func, 1, 8, [.d .nilf]⟩) (.node .nil
 (some ⟨.func, 1, 8, [.d .nilf]⟩) .nil))
 (some ⟨.func, 1, 8, [.d .nilf]⟩) (.node (.node .nil
 (some ⟨.func, 1, 8, [.d .nilf]⟩) .nil)
 (some ⟨.func, 1, 8, [.d .nilf]⟩) (.node .nil
 (some ⟨(.array 32 5), 32, 32, [.d (.int .u8 (0)), .d (.int .u8 (0)), .d (.int .u8 (0)), .d (.int .u8 (0)), .d (.int .u8 (0)), .d (.int .u8 (0)), .d (.int .u8 (0)), .d (.int .u8 (0)), .d (.int .u8 (0)), .d (.int .u8 (0)), .d (.int .u8 (0)), .d (.int .u8 (0)), .d (.int .u8 (0)), .d (.int .u8 (0)), .d (.int .u8 (0)), .d (.int .u8 (0)), .d (.int .u8 (0)), .d (.int .u8 (0)), .d (.int .u8 (0)), .d (.int .u8 (0)), .d (.int .u8 (0)), .d (.int .u8 (0)), .d (.int .u8 (0)), .d (.int .u8 (0)), .d (.int .u8 (0)), .d (.int .u8 (0)), .d (.int .u8 (0)), .d (.int .u8 (0)), .d (.int .u8 (0)), .d (.int .u8 (0)), .d (.int .u8 (0)), .d (.int .u8 (0))]⟩) .nil)))
 (some ⟨(.int .i32), 1, 4, [.d (.int .i32 (0))]⟩) (.node (.node (.node .nil
 (some ⟨(.int .u32), 1, 4, [.d (.int .u32 (0))]⟩) .nil)
 (some ⟨.func, 1, 8, [.d .nilf]⟩) (.node .nil
 (some ⟨.func, 1, 8, [.d .nilf]⟩) .nil))
 (some ⟨(.slice 3), 1, 24, [.nils]⟩) (.node (.node .nil
 (some ⟨.func, 1, 8, [.d .nilf]⟩) .nil)
 none (.node .nil
 (some ⟨(.struct [(0, 12), (1, 12), (2, 149), (3, 240), (4, 5), (5, 5), (6, 241), (7, 242), (8, 123), (9, 243), (10, 244)]), 11, 48, [.d (.int .u64 (0)), .d (.int .u64 (0)), .d (.int .u32 (0)), .d (.int .u8 (0)), .d (.int .u8 (0)), .d (.int .u8 (0)), .d (.int .u8 (0)), .d .nilf, .d .nilp, .d (.int .i32 (0)), .d (.int .i32 (0))]⟩) .nil))))
 (some ⟨(.struct [(0, 9), (1, 12)]), 2, 24, [.d (.str ⟨#[]⟩), .d (.int .u64 (0))]⟩) (.node (.node (.node .nil
 (some ⟨(.struct [(0, 75), (1, 76)]), 2, 32, [.d .nilp, .nils]⟩) (.node .nil
 (some ⟨.func, 1, 8, [.d .nilf]⟩) .nil))
 (some ⟨(.int .i64), 1, 8, [.d (.int .i64 (0))]⟩) (.node (.node .nil
 (some ⟨.func, 1, 8, [.d .nilf]⟩) .nil)
 (some ⟨(.int .u64), 1, 8, [.d (.int .u64 (0))]⟩) (.node .nil
 (some ⟨(.array 0 16), 0, 0, []⟩) .nil)))
 (some ⟨.func, 1, 8, [.d .nilf]⟩) (.node (.node (.node .nil
 (some ⟨.func, 1, 8, [.d .nilf]⟩) .nil)
 (some ⟨.func, 1, 8, [.d .nilf]⟩) (.node .nil
 (some ⟨.func, 1, 8, [.d .nilf]⟩) .nil))
 (some ⟨.func, 1, 8, [.d .nilf]⟩) (.node (.node .nil
 (some ⟨.func, 1, 8, [.d .nilf]⟩) .nil)
 (some ⟨.func, 1, 8, [.d .nilf]⟩) .nil))))))
 none (.node (.node (.node (.node (.node (.node (.node .nil
 (some ⟨(.pointer 25), 1, 8, [.d .nilp]⟩) .nil)
 (some ⟨.func, 1, 8, [.d .nilf]⟩) (.node .nil
 (some ⟨.func, 1, 8, [.d .nilf]⟩) .nil))
 (some ⟨.func, 1, 8, [.d .nilf]⟩) (.node (.node .nil
 (some ⟨.func, 1, 8, [.d .nilf]⟩) .nil)
 (some ⟨.func, 1, 8, [.d .nilf]⟩) (.node .nil
 (some ⟨.func, 1, 8, [.d .nilf]⟩) .nil)))
 (some ⟨(.pointer 239), 1, 8, [.d .nilp]⟩) (.node (.node (.node .nil
 (some ⟨.func, 1, 8, [.d .nilf]⟩) .nil)
 (some ⟨.func, 1, 8, [.d .nilf]⟩) (.node .nil
 (some ⟨.func, 1, 8, [.d .nilf]⟩) .nil))
 (some ⟨.func, 1, 8, [.d .nilf]⟩) (.node (.node .nil
 (some ⟨.func, 1, 8, [.d .nilf]⟩) .nil)
 (some ⟨(.struct [(0, 9), (1, 3), (2, 3)]), 3, 32, [.d (.str ⟨#[]⟩), .d (.int .i64 (0)), .d (.int .i64 (0))]⟩) (.node .nil
 (some ⟨(.int .u8), 1, 1, [.d (.int .u8 (0))]⟩) .nil))))
 (some ⟨(.struct [(0, 2), (1, 3), (2, 4), (3, 6)]), 4, 24, [.d (.int .i64 (0)), .d (.int .i64 (0)), .d (.bool false), .d (.int .u8 (0))]⟩) (.node (.node (.node (.node .nil
 (some ⟨.func, 1, 8, [.d .nilf]⟩) .nil)
 (some ⟨.func, 1, 8, [.d .nilf]⟩) .nil)
 (some ⟨(.struct [(0, 3), (1, 39)]), 2, 32, [.d (.int .i64 (0)), .nils]⟩) (.node (.node .nil
 (some ⟨.func, 1, 8, [.d .nilf]⟩) .nil)
 (some ⟨.func, 1, 8, [.d .nilf]⟩) (.node .nil
 (some ⟨(.struct [(0, 5), (1, 5)]), 2, 2, [.d (.int .u8 (0)), .d (.int .u8 (0))]⟩) .nil)))
 (some ⟨(.struct [(0, 3), (1, 3), (2, 9), (3, 22), (4, 23)]), 5, 80, [.d (.int .i64 (0)), .d (.int .i64 (0)), .d (.str ⟨#[]⟩), .nils, .nils]⟩) (.node (.node (.node .nil
 (some ⟨(.array 31 112), 93, 992, [.d (.str ⟨#[]⟩), .d (.int .i64 (0)), .d (.int .i64 (0)), .d (.str ⟨#[]⟩), .d (.int .i64 (0)), .d (.int .i64 (0)), .d (.str ⟨#[]⟩), .d (.int .i64 (0)), .d (.int .i64 (0)), .d (.str ⟨#[]⟩), .d (.int .i64 (0)), .d (.int .i64 (0)), .d (.str ⟨#[]⟩), .d (.int .i64 (0)), .d (.int .i64 (0)), .d (.str ⟨#[]⟩), .d (.int .i64 (0)), .d (.int .i64 (0)), .d (.str ⟨#[]⟩), .d (.int .i64 (0)), .d (.int .i64 (0)), .d (.str ⟨#[]⟩), .d (.int .i64 (0)), .d (.int .i64 (0)), .d (.str ⟨#[]⟩), .d (.int .i64 (0)), .d (.int .i64 (0)), .d (.str ⟨#[]⟩), .d (.int .i64 (0)), .d (.int .i64 (0)), .d (.str ⟨#[]⟩), .d (.int .i64 (0)), .d (.int .i64 (0)), .d (.str ⟨#[]⟩), .d (.int .i64 (0)), .d (.int .i64 (0)), .d (.str ⟨#[]⟩), .d (.int .i64 (0)), .d (.int .i64 (0)), .d (.str ⟨#[]⟩), .d (.int .i64 (0)), .d (.int .i64 (0)), .d (.str ⟨#[]⟩), .d (.int .i64 (0)), .d (.int .i64 (0)), .d (.str ⟨#[]⟩), .d (.int .i64 (0)), .d (.int .i64 (0)), .d (.str ⟨#[]⟩), .d (.int .i64 (0)), .d (.int .i64 (0)), .d (.str ⟨#[]⟩), .d (.int .i64 (0)), .d (.int .i64 (0)), .d (.str ⟨#[]⟩), .d (.int .i64 (0)), .d (.int .i64 (0)), .d (.str ⟨#[]⟩), .d (.int .i64 (0)), .d (.int .i64 (0)), .d (.str ⟨#[]⟩), .d (.int .i64 (0)), .d (.int .i64 (0)), .d (.str ⟨#[]⟩), .d (.int .i64 (0)), .d (.int .i64 (0)), .d (.str ⟨#[]⟩), .d (.int .i64 (0)), .d (.int .i64 (0)), .d (.str ⟨#[]⟩), .d (.int .i64 (0)), .d (.int .i64 (0)), .d (.str ⟨#[]⟩), .d (.int .i64 (0)), .d (.int .i64 (0)), .d (.str ⟨#[]⟩), .d (.int .i64 (0)), .d (.int .i64 (0)), .d (.str ⟨#[]⟩), .d (.int .i64 (0)), .d (.int .i64 (0)), .d (.str ⟨#[]⟩), .d (.int .i64 (0)), .d (.int .i64 (0)), .d (.str ⟨#[]⟩), .d (.int .i64 (0)), .d (.int .i64 (0)), .d (.str ⟨#[]⟩), .d (.int .i64 (0)), .d (.int .i64 (0)), .d (.str ⟨#[]⟩), .d (.int .i64 (0)), .d (.int .i64 (0))]⟩) .nil)
 (some ⟨(.struct [(0, 9), (1, 3), (2, 3), (3, 4)]), 4, 40, [.d (.str ⟨#[]⟩), .d (.int .i64 (0)), .d (.int .i64 (0)), .d (.bool false)]⟩) (.node .nil
 (some ⟨.func, 1, 8, [.d .nilf]⟩) .nil))
 (some ⟨.func, 1, 8, [.d .nilf]⟩) (.node (.node .nil
 (some ⟨.func, 1, 8, [.d .nilf]⟩) .nil)
 (some ⟨.func, 1, 8, [.d .nilf]⟩) .nil))))
 (some ⟨.bool, 1, 1, [.d (.bool false)]⟩) (.node (.node (.node (.node (.node .nil
 (some ⟨.func, 1, 8, [.d .nilf]⟩) .nil)
 (some ⟨.func, 1, 8, [.d .nilf]⟩) (.node .nil
 (some ⟨.func, 1, 8, [.d .nilf]⟩) .nil))
 none (.node (.node .nil
 (some ⟨.func, 1, 8, [.d .nilf]⟩) .nil)
 (some ⟨.func, 1, 8, [.d .nilf]⟩) (.node .nil
 (some ⟨(.struct [(0, 9)]), 1, 16, [.d (.str ⟨#[]⟩)]⟩) .nil)))
 none (.node (.node (.node .nil
 (some ⟨.func, 1, 8, [.d .nilf]⟩) .nil)
 (some ⟨(.struct [(0, 9), (1, 3), (2, 3)]), 3, 32, [.d (.str ⟨#[]⟩), .d (.int .i64 (0)), .d (.int .i64 (0))]⟩) .nil)
 (some ⟨.func, 1, 8, [.d .nilf]⟩) (.node (.node .nil
 (some ⟨.func, 1, 8, [.d .nilf]⟩) .nil)
 none (.node .nil
 (some ⟨(.int .i32), 1, 4, [.d (.int .i32 (0))]⟩) .nil))))
 (some ⟨(.int .u64), 1, 8, [.d (.int .u64 (0))]⟩) (.node (.node (.node (.node .nil
 (some ⟨(.int .i64), 1, 8, [.d (.int .i64 (0))]⟩) .nil)
 (some ⟨(.slice 5), 1, 24, [.nils]⟩) (.node .nil
 (some ⟨.func, 1, 8, [.d .nilf]⟩) .nil))
 (some ⟨(.struct [(0, 3), (1, 3)]), 2, 16, [.d (.int .i64 (0)), .d (.int .i64 (0))]⟩) (.node (.node .nil
 (some ⟨.func, 1, 8, [.d .nilf]⟩) .nil)
 (some ⟨.func, 1, 8, [.d .nilf]⟩) (.node .nil
 (some ⟨(.struct [(0, 17), (1, 17), (2, 17), (3, 9)]), 4, 40, [.d .nilp, .d .nilp, .d .nilp, .d (.str ⟨#[]⟩)]⟩) .nil)))
 none (.node (.node .nil
 (some ⟨.func, 1, 8, [.d .nilf]⟩) .nil)
 (some ⟨.func, 1, 8, [.d .nilf]⟩) (.node (.node .nil
 (some ⟨.func, 1, 8, [.d .nilf]⟩) .nil)
 none .nil)))))
 (some ⟨(.int .i64), 1, 8, [.d (.int .i64 (0))]⟩) (.node (.node (.node (.node (.node (.node .nil
 (some ⟨.func, 1, 8, [.d .nilf]⟩) .nil)
 none (.node .nil
 (some ⟨.func, 1, 8, [.d .nilf]⟩) .nil))
 (some ⟨.func, 1, 8, [.d .nilf]⟩) (.node (.node .nil
 (some ⟨.func, 1, 8, [.d .nilf]⟩) .nil)
 (some ⟨.func, 1, 8, [.d .nilf]⟩) (.node .nil
 (some ⟨(.pointer 228), 1, 8, [.d .nilp]⟩) .nil)))
 (some ⟨(.struct [(0, 17)]), 1, 8, [.d .nilp]⟩) (.node (.node .nil
 (some ⟨(.pointer 84), 1, 8, [.d .nilp]⟩) (.node .nil
 (some ⟨(.array 65 5), 65, 65, [.d (.int .u8 (0)), .d (.int .u8 (0)), .d (.int .u8 (0)), .d (.int .u8 (0)), .d (.int .u8 (0)), .d (.int .u8 (0)), .d (.int .u8 (0)), .d (.int .u8 (0)), .d (.int .u8 (0)), .d (.int .u8 (0)), .d (.int .u8 (0)), .d (.int .u8 (0)), .d (.int .u8 (0)), .d (.int .u8 (0)), .d (.int .u8 (0)), .d (.int .u8 (0)), .d (.int .u8 (0)), .d (.int .u8 (0)), .d (.int .u8 (0)), .d (.int .u8 (0)), .d (.int .u8 (0)), .d (.int .u8 (0)), .d (.int .u8 (0)), .d (.int .u8 (0)), .d (.int .u8 (0)), .d (.int .u8 (0)), .d (.int .u8 (0)), .d (.int .u8 (0)), .d (.int .u8 (0)), .d (.int .u8 (0)), .d (.int .u8 (0)), .d (.int .u8 (0)), .d (.int .u8 (0)), .d (.int .u8 (0)), .d (.int .u8 (0)), .d (.int .u8 (0)), .d (.int .u8 (0)), .d (.int .u8 (0)), .d (.int .u8 (0)), .d (.int .u8 (0)), .d (.int .u8 (0)), .d (.int .u8 (0)), .d (.int .u8 (0)), .d (.int .u8 (0)), .d (.int .u8 (0)), .d (.int .u8 (0)), .d (.int .u8 (0)), .d (.int .u8 (0)), .d (.int .u8 (0)), .d (.int .u8 (0)), .d (.int .u8 (0)), .d (.int .u8 (0)), .d (.int .u8 (0)), .d (.int .u8 (0)), .d (.int .u8 (0)), .d (.int .u8 (0)), .d (.int .u8 (0)), .d (.int .u8 (0)), .d (.int .u8 (0)), .d (.int .u8 (0)), .d (.int .u8 (0)), .d (.int .u8 (0)), .d (.int .u8 (0)), .d (.int .u8 (0)), .d (.int .u8 (0))]⟩) .nil))
 (some ⟨.func, 1, 8, [.d .nilf]⟩) (.node (.node .nil
 (some ⟨.func, 1, 8, [.d .nilf]⟩) .nil)
 (some ⟨.func, 1, 8, [.d .nilf]⟩) (.node .nil
 (some ⟨.func, 1, 8, [.d .nilf]⟩) .nil))))
 (some ⟨.string, 1, 16, [.d (.str ⟨#[]⟩)]⟩) (.node (.node (.node (.node .nil
 (some ⟨.func, 1, 8, [.d .nilf]⟩) .nil)
 (some ⟨.func, 1, 8, [.d .nilf]⟩) (.node .nil
 (some ⟨(.pointer 218), 1, 8, [.d .nilp]⟩) .nil))
 (some ⟨.func, 1, 8, [.d .nilf]⟩) (.node (.node .nil
 (some ⟨.func, 1, 8, [.d .nilf]⟩) .nil)
 (some ⟨.func, 1, 8, [.d .nilf]⟩) (.node .nil
 (some ⟨(.array 16 233), 32, 32, [.d (.int .u8 (0)), .d (.int .u8 (0)), .d (.int .u8 (0)), .d (.int .u8 (0)), .d (.int .u8 (0)), .d (.int .u8 (0)), .d (.int .u8 (0)), .d (.int .u8 (0)), .d (.int .u8 (0)), .d (.int .u8 (0)), .d (.int .u8 (0)), .d (.int .u8 (0)), .d (.int .u8 (0)), .d (.int .u8 (0)), .d (.int .u8 (0)), .d (.int .u8 (0)), .d (.int .u8 (0)), .d (.int .u8 (0)), .d (.int .u8 (0)), .d (.int .u8 (0)), .d (.int .u8 (0)), .d (.int .u8 (0)), .d (.int .u8 (0)), .d (.int .u8 (0)), .d (.int .u8 (0)), .d (.int .u8 (0)), .d (.int .u8 (0)), .d (.int .u8 (0)), .d (.int .u8 (0)), .d (.int .u8 (0)), .d (.int .u8 (0)), .d (.int .u8 (0))]⟩) .nil)))
 (some ⟨.func, 1, 8, [.d .nilf]⟩) (.node (.node .nil
 (some ⟨.func, 1, 8, [.d .nilf]⟩) (.node .nil
 (some ⟨(.struct [(0, 9), (1, 9), (2, 116)]), 3, 48, [.d (.str ⟨#[]⟩), .d (.str ⟨#[]⟩), .d .nili]⟩) .nil))
 (some ⟨.func, 1, 8, [.d .nilf]⟩) (.node (.node .nil
 (some ⟨.func, 1, 8, [.d .nilf]⟩) .nil)
 (some ⟨.func, 1, 8, [.d .nilf]⟩) .nil))))
 (some ⟨(.int .u8), 1, 1, [.d (.int .u8 (0))]⟩) (.node (.node (.node (.node (.node .nil
 (some ⟨.func, 1, 8, [.d .nilf]⟩) .nil)
 (some ⟨.func, 1, 8, [.d .nilf]⟩) (.node .nil
 (some ⟨.func, 1, 8, [.d .nilf]⟩) .nil))
 (some ⟨.func, 1, 8, [.d .nilf]⟩) (.node (.node .nil
 (some ⟨.func, 1, 8, [.d .nilf]⟩) .nil)
 (some ⟨.func, 1, 8, [.d .nilf]⟩) (.node .nil
 (some ⟨(.array 64 5), 64, 64, [.d (.int .u8 (0)), .d (.int .u8 (0)), .d (.int .u8 (0)), .d (.int .u8 (0)), .d (.int .u8 (0)), .d (.int .u8 (0)), .d (.int .u8 (0)), .d (.int .u8 (0)), .d (.int .u8 (0)), .d (.int .u8 (0)), .d (.int .u8 (0)), .d (.int .u8 (0)), .d (.int .u8 (0)), .d (.int .u8 (0)), .d (.int .u8 (0)), .d (.int .u8 (0)), .d (.int .u8 (0)), .d (.int .u8 (0)), .d (.int .u8 (0)), .d (.int .u8 (0)), .d (.int .u8 (0)), .d (.int .u8 (0)), .d (.int .u8 (0)), .d (.int .u8 (0)), .d (.int .u8 (0)), .d (.int .u8 (0)), .d (.int .u8 (0)), .d (.int .u8 (0)), .d (.int .u8 (0)), .d (.int .u8 (0)), .d (.int .u8 (0)), .d (.int .u8 (0)), .d (.int .u8 (0)), .d (.int .u8 (0)), .d (.int .u8 (0)), .d (.int .u8 (0)), .d (.int .u8 (0)), .d (.int .u8 (0)), .d (.int .u8 (0)), .d (.int .u8 (0)), .d (.int .u8 (0)), .d (.int .u8 (0)), .d (.int .u8 (0)), .d (.int .u8 (0)), .d (.int .u8 (0)), .d (.int .u8 (0)), .d (.int .u8 (0)), .d (.int .u8 (0)), .d (.int .u8 (0)), .d (.int .u8 (0)), .d (.int .u8 (0)), .d (.int .u8 (0)), .d (.int .u8 (0)), .d (.int .u8 (0)), .d (.int .u8 (0)), .d (.int .u8 (0)), .d (.int .u8 (0)), .d (.int .u8 (0)), .d (.int .u8 (0)), .d (.int .u8 (0)), .d (.int .u8 (0)), .d (.int .u8 (0)), .d (.int .u8 (0)), .d (.int .u8 (0))]⟩) .nil)))
 (some ⟨(.slice 41), 1, 24, [.nils]⟩) (.node (.node (.node .nil
 (some ⟨.func, 1, 8, [.d .nilf]⟩) .nil)
 (some ⟨(.pointer 88), 1, 8, [.d .nilp]⟩) .nil)
 (some ⟨.func, 1, 8, [.d .nilf]⟩) (.node .nil
 (some ⟨.func, 1, 8, [.d .nilf]⟩) (.node .nil
 (some ⟨(.struct [(0, 12), (1, 12), (2, 149), (3, 240), (4, 5), (5, 5), (6, 241), (7, 242), (8, 123), (9, 243), (10, 244)]), 11, 48, [.d (.int .u64 (0)), .d (.int .u64 (0)), .d (.int .u32 (0)), .d (.int .u8 (0)), .d (.int .u8 (0)), .d (.int .u8 (0)), .d (.int .u8 (0)), .d .nilf, .d .nilp, .d (.int .i32 (0)), .d (.int .i32 (0))]⟩) .nil))))
 (some ⟨(.struct [(0, 9), (1, 12)]), 2, 24, [.d (.str ⟨#[]⟩), .d (.int .u64 (0))]⟩) (.node (.node (.node (.node .nil
 (some ⟨.func, 1, 8, [.d .nilf]⟩) .nil)
 (some ⟨(.struct [(0, 75), (1, 76)]), 2, 32, [.d .nilp, .nils]⟩) (.node .nil
 (some ⟨.func, 1, 8, [.d .nilf]⟩) .nil))
 none (.node (.node .nil
 (some ⟨.func, 1, 8, [.d .nilf]⟩) .nil)
 (some ⟨.func, 1, 8, [.d .nilf]⟩) (.node .nil
 (some ⟨(.struct [(0, 237)]), 0, 0, []⟩) .nil)))
 (some ⟨.func, 1, 8, [.d .nilf]⟩) (.node (.node (.node .nil
 (some ⟨.func, 1, 8, [.d .nilf]⟩) .nil)
 (some ⟨.func, 1, 8, [.d .nilf]⟩) (.node .nil
 (some ⟨.func, 1, 8, [.d .nilf]⟩) .nil))
 (some ⟨.func, 1, 8, [.d .nilf]⟩) (.node (.node .nil
 (some ⟨.func, 1, 8, [.d .nilf]⟩) .nil)
 (some ⟨.func, 1, 8, [.d .nilf]⟩) .nil)))))))
instance glb : Glb := ⟨fun b k v => False ∨ (b = 0 ∧ ((k < 20 ∧ v = some (.int .u64 ((10 ^ k : Nat) : Int))) ∨ (k = 20 ∧ v = none))), 78, 5⟩
def T [Ops] : Unit → Tab := fun _ => tbl.tab
noncomputable def P : Unit → Program := fun _ => Go.Proofs.Tryz.prog
theorem tabOk [Ops] : TabOk (P ()) (T ()) := Tables.tabOk (by kernel_rfl) rfl
end Go.VM

/- The value of a level with levels put in. -/
namespace Go.VM
set_option linter.unusedVariables false
set_option linter.unusedSimpArgs false
/-- the value of a number and of parts -/
def evL (x : Int → Int) (c : Int) : List Pt → Int
  | [] => c
  | p :: l => max (x p.1 + p.2) (evL x c l)
theorem evL_le {x : Int → Int} {c b : Int} : ∀ {l : List Pt}, evL x c l ≤ b ↔ c ≤ b ∧ ∀ p, p ∈ l → x p.1 + p.2 ≤ b
  | [] => by simp [evL]
  | p :: l => by
    unfold evL
    rw [Int.max_le, evL_le (l := l)]
    simp only [List.mem_cons]
    constructor
    · rintro ⟨h1, h2, h3⟩
      refine ⟨h2, fun q hq => ?_⟩
      rcases hq with rfl | hq
      · exact h1
      · exact h3 q hq
    · rintro ⟨h1, h2⟩
      exact ⟨h2 p (.inl rfl), h1, fun q hq => h2 q (.inr hq)⟩
theorem evL_ext {x y : Int → Int} {c d : Int} {l r : List Pt} (h : ∀ b, evL x c l ≤ b ↔ evL y d r ≤ b) : evL x c l = evL y d r :=
  Int.le_antisymm ((h _).2 (Int.le_refl _)) ((h _).1 (Int.le_refl _))
theorem evL_snoc (x : Int → Int) (c : Int) (l : List Pt) (p : Pt) : evL x c (l ++ [p]) = max (evL x c l) (x p.1 + p.2) := by
  induction l with
  | nil => simp only [List.nil_append, evL]; omega
  | cons q l ih => simp only [List.cons_append, evL, ih]; omega
theorem evV_L (V P : Nat → Int) (x : Int → Int) (c : Int) : ∀ n, evV V P x c n = evL x c (lst V P n)
  | 0 => rfl
  | n + 1 => by rw [evV, lst, evL_snoc, evV_L V P x c n]
theorem evL_ge {x : Int → Int} {c : Int} (l : List Pt) : c ≤ evL x c l := (evL_le.1 (Int.le_refl _)).1
theorem evL_in {x : Int → Int} {c : Int} {l : List Pt} {p : Pt} (h : p ∈ l) : x p.1 + p.2 ≤ evL x c l := (evL_le.1 (Int.le_refl _)).2 p h
theorem evL_mx {x : Int → Int} {c : Int} {q l : List Pt} (h : ∀ v, mx q v = mx l v) : evL x c q = evL x c l := by
  have key : ∀ {q l : List Pt}, (∀ v, mx q v = mx l v) → ∀ b, evL x c l ≤ b → evL x c q ≤ b := fun {q l} h b hb => by
    rw [evL_le] at hb ⊢
    refine ⟨hb.1, fun p hp => ?_⟩
    obtain ⟨y, e, hy⟩ := mx_mem hp
    rw [h] at e
    have := hb.2 _ (mx_in e)
    dsimp only at this
    omega
  exact evL_ext fun b => ⟨key (fun v => (h v).symm) b, key h b⟩
theorem evL_most {x : Int → Int} (hx : ∀ v, 0 ≤ x v) {c : Int} (hc : 0 ≤ c) (l : List Pt) : mostL l ≤ evL x c l := by
  have h0 := evL_ge (x := x) (c := c) l
  exact (mostL_le (by omega)).2 fun p hp => by have := evL_in (x := x) (c := c) hp; have := hx p.1; omega
theorem evL_cq {x : Int → Int} (hx : ∀ v, 0 ≤ x v) {c : Int} (hc : 0 ≤ c) (q : List Pt) : evL x (cq c q) q = evL x c q := by
  unfold cq
  split
  · rename_i h
    refine evL_ext fun b => ?_
    have h1 := evL_most hx (Int.le_refl 0) q
    have h2 := evL_most hx hc q
    constructor
    · intro hb
      have hb' := evL_le.1 hb
      exact evL_le.2 ⟨by omega, hb'.2⟩
    · intro hb
      have hb' := evL_le.1 hb
      exact evL_le.2 ⟨by omega, hb'.2⟩
  · rfl
/-- the assignment of the values of what is put in -/
def putX (m : Nat) (C : Nat → Int) (B : Nat → List Pt) (x : Int → Int) (v : Int) : Int := if v < m then evL x (C v.toNat) (B v.toNat) else x v
theorem evL_big {m : Nat} {C : Nat → Int} {B : Nat → List Pt} {x : Int → Int} {c : Int} : ∀ l : List Pt, evL x (sc m C c l) (big m B l) = evL (putX m C B x) c l
  | [] => rfl
  | p :: l => by
    have ih := evL_big (m := m) (C := C) (B := B) (x := x) (c := c) l
    have ihb : ∀ b, (sc m C c l ≤ b ∧ ∀ q, q ∈ big m B l → x q.1 + q.2 ≤ b) ↔ evL (putX m C B x) c l ≤ b := fun b => by rw [← ih, evL_le]
    refine evL_ext fun b => ?_
    rw [evL_le, evL, Int.max_le, ← ihb]
    simp only [sc, big, big1, putX]
    by_cases h : p.1 < m
    · simp only [if_pos h, List.mem_append, List.mem_map, Int.max_le]
      have e : evL x (C p.1.toNat) (B p.1.toNat) + p.2 ≤ b ↔ C p.1.toNat + p.2 ≤ b ∧ ∀ q, q ∈ B p.1.toNat → x q.1 + q.2 + p.2 ≤ b := by
        rw [show (evL x (C p.1.toNat) (B p.1.toNat) + p.2 ≤ b ↔ evL x (C p.1.toNat) (B p.1.toNat) ≤ b - p.2) by omega, evL_le]
        constructor
        · rintro ⟨h1, h2⟩; exact ⟨by omega, fun q hq => by have := h2 q hq; omega⟩
        · rintro ⟨h1, h2⟩; exact ⟨by omega, fun q hq => by have := h2 q hq; omega⟩
      rw [e]
      constructor
      · rintro ⟨⟨h1, h2⟩, h3⟩
        refine ⟨⟨h1, fun q hq => ?_⟩, h2, fun q hq => h3 q (.inr hq)⟩
        have := h3 (q.1, q.2 + p.2) (.inl ⟨q, hq, rfl⟩)
        dsimp only at this
        omega
      · rintro ⟨⟨h1, h2⟩, h3, h4⟩
        refine ⟨⟨h1, h3⟩, fun q hq => ?_⟩
        rcases hq with ⟨r, hr, rfl⟩ | hq
        · have := h2 r hr; dsimp only; omega
        · exact h4 q hq
    · simp only [if_neg h, List.mem_append, List.mem_singleton]
      constructor
      · rintro ⟨h1, h2⟩
        exact ⟨h2 p (.inl rfl), h1, fun q hq => h2 q (.inr hq)⟩
      · rintro ⟨h1, h2, h3⟩
        refine ⟨h2, fun q hq => ?_⟩
        rcases hq with rfl | hq
        · exact h1
        · exact h3 q hq
theorem evL_congr {x y : Int → Int} {c : Int} {l : List Pt} (h : ∀ p, p ∈ l → x p.1 = y p.1) : evL x c l = evL y c l := by
  induction l with
  | nil => rfl
  | cons p l ih =>
    unfold evL
    rw [h p List.mem_cons_self, ih fun q hq => h q (List.mem_cons_of_mem _ hq)]
/-- what comes out, by its value -/
theorem puts_ev {m : Nat} {C : Nat → Int} {B : Nat → List Pt} {x : Int → Int} {c c' : Int} {l q : List Pt} (hx : ∀ v, 0 ≤ x v) (hc : 0 ≤ c) (hq : ∀ v, mx q v = mx (big m B l) v) (hc' : c' = cq (sc m C c l) q) : evL x c' q = evL (putX m C B x) c l := by
  have := sc_ge m C c l
  rw [hc', evL_cq hx (by omega), evL_mx hq, evL_big]
theorem putX_ge {m : Nat} {C : Nat → Int} {B : Nat → List Pt} {x : Int → Int} (hx : ∀ v, 0 ≤ x v) (hC : ∀ i, i < m → 0 ≤ C i) (v : Int) (h0 : 0 ≤ v) : 0 ≤ putX m C B x v := by
  unfold putX
  split
  · have := hC v.toNat (by omega); have := evL_ge (x := x) (c := C v.toNat) (B v.toNat); omega
  · exact hx v
/-- what is at most stays so -/
theorem puts_leq {m : Nat} {C : Nat → Int} {B : Nat → List Pt} {c c' c1 c1' : Int} {n n' n1 n1' : Nat} {V P V' P' V1 P1 V1' P1' : Nat → Int} (va : ValidP c n V P) (vb : ValidP c' n' V' P') (v1 : ValidP c1 n1 V1 P1) (v1' : ValidP c1' n1' V1' P1')
    (hC : ∀ i, i < m → 0 ≤ C i) (h1 : ∀ v, mx (lst V1 P1 n1) v = mx (big m B (lst V P n)) v) (e1 : c1 = cq (sc m C c (lst V P n)) (lst V1 P1 n1))
    (h2 : ∀ v, mx (lst V1' P1' n1') v = mx (big m B (lst V' P' n')) v) (e2 : c1' = cq (sc m C c' (lst V' P' n')) (lst V1' P1' n1')) (h : LeqP c n V P c' n' V' P') : LeqP c1 n1 V1 P1 c1' n1' V1' P1' := by
  have key : ∀ x : Int → Int, (∀ v, 0 ≤ x v) → evV V1 P1 x c1 n1 ≤ evV V1' P1' x c1' n1' := fun x hx => by
    rw [evV_L, evV_L, puts_ev hx va.1 h1 e1, puts_ev hx vb.1 h2 e2]
    have e : ∀ {c n} {V P : Nat → Int}, ValidP c n V P → evL (putX m C B x) c (lst V P n) = evV V P (fun v => putX m C B x (max v 0)) c n := fun {c n V P} v => by
      rw [evV_L]
      refine evL_congr fun p hp => ?_
      obtain ⟨i, hi, rfl⟩ := lst_mem.1 hp
      have := (v.2.2.2 i hi).1
      dsimp only
      rw [show max (V i) 0 = V i by omega]
    rw [e va, e vb]
    exact leq_ev _ (fun v => putX_ge hx hC _ (by omega)) vb.1 h
  exact leq_of_ev v1 v1' (key _ fun _ => Int.le_refl _) fun i _ => key _ fun v => by split <;> decide
/-- the parts of what comes out, each in its range -/
theorem big_range {m : Nat} {B : Nat → List Pt} {l : List Pt} (hl : ∀ p, p ∈ l → 0 ≤ p.1 ∧ p.1 < 1200 ∧ 0 ≤ p.2) (hB : ∀ i, i < m → ∀ p, p ∈ B i → 0 ≤ p.1 ∧ p.1 < 1200 ∧ 0 ≤ p.2) : ∀ v p, mx (big m B l) v = some p → 0 ≤ v ∧ v < 1200 ∧ 0 ≤ p := by
  have key : ∀ l : List Pt, (∀ p, p ∈ l → 0 ≤ p.1 ∧ p.1 < 1200 ∧ 0 ≤ p.2) → ∀ q, q ∈ big m B l → 0 ≤ q.1 ∧ q.1 < 1200 ∧ 0 ≤ q.2 := by
    intro l
    induction l with
    | nil => intro _ q hq; cases hq
    | cons p l ih =>
      intro hl q hq
      have hp := hl p List.mem_cons_self
      simp only [big, big1, List.mem_append] at hq
      rcases hq with hq | hq
      · split at hq
        · obtain ⟨r, hr, rfl⟩ := List.mem_map.1 hq
          have := hB p.1.toNat (by omega) r hr
          dsimp only
          omega
        · obtain rfl := List.mem_singleton.1 hq
          exact hp
      · exact ih (fun r hr => hl r (List.mem_cons_of_mem _ hr)) q hq
  exact fun v p h => key l hl _ (mx_in h)
end Go.VM

/- A list of levels, as data. -/
namespace Go.VM
/-- a list of levels, as data -/
def lsF (C : Nat → Int) (N : Nat → Nat) (V P : Nat → Nat → Int) : Nat → Nat → D := fun i j => match j with | 0 => .int .i64 (C i) | _ => .sl (N i) 2 (lvF (V i) (P i))
end Go.VM

/- Terms, as data. -/
namespace Go.VM
open Go
set_option linter.unusedVariables false
set_option linter.unusedSimpArgs false
/-- what every machine's term keeps -/
structure TmOk (op n : Int) (s : ByteArray) (k : Nat) (N : Nat → Nat) (m : Nat) : Prop where
  op : -9223372036854775808 ≤ op ∧ op ≤ 9223372036854775807
  n : -9223372036854775808 ≤ n ∧ n ≤ 9223372036854775807
  s : s.size < 2 ^ 63
  k : k < 2 ^ 63
  N : ∀ i, N i < 2 ^ 63
  m : m < 2 ^ 63
/-- a term: Op, N, S, the levels of U (number, how many parts, parts), the parts of L -/
inductive Tm
  | mk (op n : Int) (s : ByteArray) (k : Nat) (C : Nat → Int) (N : Nat → Nat) (W Q : Nat → Nat → Int) (m : Nat) (ok : TmOk op n s k N m) (L : Fin m → Tm)
/-- the same, the parts as a function of all numbers -/
def Tm.nd (op n : Int) (s : ByteArray) (k : Nat) (C : Nat → Int) (N : Nat → Nat) (W Q : Nat → Nat → Int) (m : Nat) (ok : TmOk op n s k N m) (K : Nat → Tm) : Tm := .mk op n s k C N W Q m ok fun i => K i
def tmD : Tm → Nat → D
  | .mk op n s k C N W Q m _ L => fun j => match j with
    | 0 => .int .i64 op
    | 1 => .int .i64 n
    | 2 => .str s
    | 3 => .sl k 2 (lsF C N W Q)
    | _ => .sl m 5 (fun i j => if h : i < m then tmD (L ⟨i, h⟩) j else .nilp)
/-- a row of a list of terms -/
abbrev kid (G : Nat → Nat → D) (i : Nat) : A := .agg [.d (G i 0), .d (G i 1), .d (G i 2), .d (G i 3), .d (G i 4)]
/-- a term, as a value -/
def tm (t : Tm) : A := .agg [.d (tmD t 0), .d (tmD t 1), .d (tmD t 2), .d (tmD t 3), .d (tmD t 4)]
abbrev tml (op n : Int) (s : ByteArray) (k : Nat) (C : Nat → Int) (N : Nat → Nat) (W Q : Nat → Nat → Int) (m : Nat) (G : Nat → Nat → D) : A :=
  .agg [.d (.int .i64 op), .d (.int .i64 n), .d (.str s), .d (.sl k 2 (lsF C N W Q)), .d (.sl m 5 G)]
/-- INDUCTION over terms, the parts' rows as a function -/
theorem Tm.walk {P : Tm → Prop} (h : ∀ op n s k C N W Q m (ok : TmOk op n s k N m) (K : Nat → Tm) (G : Nat → Nat → D), (∀ i, i < m → tm (K i) = kid G i) → tm (.nd op n s k C N W Q m ok K) = tml op n s k C N W Q m G → (∀ i, i < m → P (K i)) → P (.nd op n s k C N W Q m ok K)) (t : Tm) : P t := by
  induction t with
  | mk op n s k C N W Q m ok L ih =>
    have e : Tm.mk op n s k C N W Q m ok L = .nd op n s k C N W Q m ok (fun i => if h : i < m then L ⟨i, h⟩ else .mk op n s k C N W Q m ok L) := by
      unfold Tm.nd
      refine congrArg _ (funext fun i => ?_)
      show L i = if h : i.1 < m then L ⟨i.1, h⟩ else _
      rw [dif_pos i.2]
    have hk : ∀ i (hi : i < m), (if h : i < m then L ⟨i, h⟩ else .mk op n s k C N W Q m ok L) = L ⟨i, hi⟩ := fun i hi => dif_pos hi
    rw [e]
    refine h op n s k C N W Q m ok _ (fun i j => if h : i < m then tmD (L ⟨i, h⟩) j else .nilp) (fun i hi => ?_) ?_ (fun i hi => ?_)
    · rw [hk i hi]
      unfold tm kid
      simp only [dif_pos hi]
    · rw [← e]
      unfold tm
      simp only [tmD]
    · rw [hk i hi]; exact ih _
def sumF (f : Nat → Nat) : Nat → Nat
  | 0 => 0
  | n + 1 => sumF f n + f n
theorem sumF_le {f : Nat → Nat} : ∀ {n i : Nat}, i ≤ n → sumF f i ≤ sumF f n
  | 0, i, h => by obtain rfl : i = 0 := by omega
                  exact Nat.le_refl _
  | n + 1, i, h => by
    by_cases e : i = n + 1
    · subst e; exact Nat.le_refl _
    · exact Nat.le_trans (sumF_le (n := n) (by omega)) (Nat.le_add_right _ _)
theorem sumF_one {f : Nat → Nat} {n i : Nat} (h : i < n) : sumF f i + f i ≤ sumF f n := sumF_le (f := f) (n := n) (i := i + 1) h
theorem sumF_ge {f : Nat → Nat} (hf : ∀ i, 1 ≤ f i) : ∀ n, n ≤ sumF f n
  | 0 => Nat.le_refl _
  | n + 1 => by have := sumF_ge hf n; have := hf n; simp only [sumF]; omega
theorem tmD_nd (op n : Int) (s : ByteArray) (k : Nat) (C : Nat → Int) (N : Nat → Nat) (W Q : Nat → Nat → Int) (m : Nat) (ok : TmOk op n s k N m) (K : Nat → Tm) :
    tmD (.nd op n s k C N W Q m ok K) 0 = .int .i64 op ∧ tmD (.nd op n s k C N W Q m ok K) 1 = .int .i64 n ∧ tmD (.nd op n s k C N W Q m ok K) 2 = .str s ∧ tmD (.nd op n s k C N W Q m ok K) 3 = .sl k 2 (lsF C N W Q) ∧
      tmD (.nd op n s k C N W Q m ok K) 4 = .sl m 5 (fun i j => if h : i < m then tmD (K i) j else .nilp) := by simp only [Tm.nd, tmD, and_self]
/-- a leaf -/
def Tm.leaf : Tm := .mk 0 0 ByteArray.empty 0 (fun _ => 0) (fun _ => 0) (fun _ _ => 0) (fun _ _ => 0) 0 ⟨by decide, by decide, by decide, by decide, fun _ => by decide, by decide⟩ fun i => absurd i.2 (Nat.not_lt_zero _)
theorem sumF_congr {f g : Nat → Nat} : ∀ {n : Nat}, (∀ i, i < n → f i = g i) → sumF f n = sumF g n
  | 0, _ => rfl
  | n + 1, h => by simp only [sumF]; rw [sumF_congr fun i hi => h i (by omega), h n (by omega)]
def maxF (f : Nat → Nat) : Nat → Nat
  | 0 => 0
  | n + 1 => max (maxF f n) (f n)
theorem maxF_congr {f g : Nat → Nat} : ∀ {n : Nat}, (∀ i, i < n → f i = g i) → maxF f n = maxF g n
  | 0, _ => rfl
  | n + 1, h => by simp only [maxF]; rw [maxF_congr fun i hi => h i (by omega), h n (by omega)]
theorem maxF_le {f : Nat → Nat} : ∀ {n i : Nat}, i ≤ n → maxF f i ≤ maxF f n
  | 0, i, h => by obtain rfl : i = 0 := by omega
                  exact Nat.le_refl _
  | n + 1, i, h => by
    by_cases e : i = n + 1
    · subst e; exact Nat.le_refl _
    · exact Nat.le_trans (maxF_le (n := n) (by omega)) (Nat.le_max_left _ _)
theorem maxF_sum {f g : Nat → Nat} : ∀ {n : Nat}, (∀ i, i < n → f i ≤ g i) → maxF f n ≤ sumF g n
  | 0, _ => Nat.le_refl _
  | n + 1, h => by have := maxF_sum fun i hi => h i (Nat.lt_succ_of_lt hi); have := h n (by omega); simp only [sumF, maxF]; omega
theorem sumF_mono {f g : Nat → Nat} : ∀ {n : Nat}, (∀ i, i < n → f i ≤ g i) → sumF f n ≤ sumF g n
  | 0, _ => Nat.le_refl _
  | n + 1, h => by have := sumF_mono fun i hi => h i (Nat.lt_succ_of_lt hi); have := h n (by omega); simp only [sumF]; omega
section
variable {op n : Int} {s : ByteArray} {k : Nat} {C : Nat → Int} {N : Nat → Nat} {W Q : Nat → Nat → Int} {m : Nat} {ok : TmOk op n s k N m} {K : Nat → Tm}
/-- nodes, levels and their parts -/
def nodesT : Tm → Nat
  | .mk op n s k C N W Q m _ L => 1 + sumF (fun i => 1 + N i) k + sumF (fun i => if h : i < m then nodesT (L ⟨i, h⟩) else 0) m
theorem nodesT_nd : nodesT (.nd op n s k C N W Q m ok K) = 1 + sumF (fun i => 1 + N i) k + sumF (fun i => nodesT (K i)) m := by
  have e : nodesT (.nd op n s k C N W Q m ok K) = 1 + sumF (fun i => 1 + N i) k + sumF (fun i => if h : i < m then nodesT (K i) else 0) m := by simp only [Tm.nd, nodesT]
  rw [e, sumF_congr (f := fun i => if h : i < m then nodesT (K i) else 0) (g := fun i => nodesT (K i)) fun i hi => dif_pos hi]
theorem nodesT_pos : ∀ t, 1 ≤ nodesT t
  | .mk op n s k C N W Q m _ L => by unfold nodesT; omega
/-- a text of more than 200 bytes -/
def longT : Tm → Prop
  | .mk op n s k C N W Q m _ L => 200 < s.size ∨ ∃ i : Fin m, longT (L i)
theorem longT_nd : longT (.nd op n s k C N W Q m ok K) ↔ 200 < s.size ∨ ∃ i, i < m ∧ longT (K i) := by
  have e : longT (.nd op n s k C N W Q m ok K) ↔ (200 < s.size ∨ ∃ i : Fin m, longT (K i)) := by simp only [Tm.nd, longT]
  rw [e]
  refine or_congr Iff.rfl ⟨?_, ?_⟩
  · rintro ⟨i, h⟩; exact ⟨i, i.2, h⟩
  · rintro ⟨i, hi, h⟩; exact ⟨⟨i, hi⟩, h⟩
/-- a term of at most that many nodes -/
def Light (t : Tm) (most : Nat) : Prop := nodesT t ≤ most ∧ ¬ longT t
theorem Light.kid {most : Nat} (h : Light (.nd op n s k C N W Q m ok K) most) : s.size ≤ 200 ∧ k + m < most ∧ (∀ i, i < k → N i < most) ∧ ∀ i, i < m → Light (K i) most := by
  obtain ⟨h1, h2⟩ := h
  rw [nodesT_nd] at h1
  rw [longT_nd] at h2
  have hk := sumF_ge (f := fun i => 1 + N i) (fun i => by omega) k
  have hm := sumF_ge (f := fun i => nodesT (K i)) (fun i => nodesT_pos _) m
  refine ⟨Nat.le_of_not_lt fun h => h2 (.inl h), by omega, fun i hi => ?_, fun i hi => ⟨?_, fun h => h2 (.inr ⟨i, hi, h⟩)⟩⟩
  · have := sumF_one (f := fun i => 1 + N i) hi; omega
  · have := sumF_one (f := fun i => nodesT (K i)) hi; omega
/-- nodes -/
def cntT : Tm → Nat
  | .mk op n s k C N W Q m _ L => sumF (fun i => if h : i < m then cntT (L ⟨i, h⟩) else 0) m + 1
theorem cntT_nd : cntT (.nd op n s k C N W Q m ok K) = sumF (fun i => cntT (K i)) m + 1 := by
  have e : cntT (.nd op n s k C N W Q m ok K) = sumF (fun i => if h : i < m then cntT (K i) else 0) m + 1 := by simp only [Tm.nd, cntT]
  rw [e, sumF_congr (f := fun i => if h : i < m then cntT (K i) else 0) (g := fun i => cntT (K i)) fun i hi => dif_pos hi]
/-- levels of nodes -/
def depT : Tm → Nat
  | .mk op n s k C N W Q m _ L => maxF (fun i => if h : i < m then depT (L ⟨i, h⟩) else 0) m + 1
theorem depT_nd : depT (.nd op n s k C N W Q m ok K) = maxF (fun i => depT (K i)) m + 1 := by
  have e : depT (.nd op n s k C N W Q m ok K) = maxF (fun i => if h : i < m then depT (K i) else 0) m + 1 := by simp only [Tm.nd, depT]
  rw [e, maxF_congr (f := fun i => if h : i < m then depT (K i) else 0) (g := fun i => depT (K i)) fun i hi => dif_pos hi]
theorem cntT_le (t : Tm) : cntT t ≤ nodesT t := by
  refine Tm.walk (P := fun t => cntT t ≤ nodesT t) ?_ t
  intro op n s k C N W Q m ok K G _ _ ih
  rw [cntT_nd, nodesT_nd]
  have := sumF_mono (f := fun i => cntT (K i)) (g := fun i => nodesT (K i)) ih
  omega
theorem depT_le (t : Tm) : depT t ≤ nodesT t := by
  refine Tm.walk (P := fun t => depT t ≤ nodesT t) ?_ t
  intro op n s k C N W Q m ok K G _ _ ih
  rw [depT_nd, nodesT_nd]
  have := maxF_sum (f := fun i => depT (K i)) (g := fun i => nodesT (K i)) ih
  omega
end
end Go.VM

/- What a node's form is. -/
namespace Go.VM
open Go
set_option linter.unusedVariables false
set_option linter.unusedSimpArgs false
/-- what an Op uses, and how many parts it has -/
def usesL : List Int := [0, 8, 5, 2, 0, 64, 32, 32, 64, 64, 0, 0, 0, 0, 0, 0, 0, 32, 2, 2, 2, 2, 2, 2, 0, 34, 5, 21, 37, 8, 0]
def partsL : List Int := [0, 0, 0, 0, 0, 2, 2, 2, 2, 4, 1, 1, 0, 0, 0, 0, 0, 2, 3, 2, 6, 4, 3, 5, 2, 5, 1, 2, -1, 0, 0]
def mostLt : List Int := [0, 2000, 0, 0, 0, 3, 1, 1, 3, 3, 0, 0, 0, 0, 0, 0, 0, 1, 0, 0, 0, 0, 0, 0, 0, 1, 0, 7, 1, 2000, 0]
def levL : List Int := [0, 0, -1, 1, 0, 0, 0, 0, 0, 0, 0, 0, 0, 0, 0, 0, 0, 0, 1, 1, 1, 1, 1, 1, 0, 1, -1, -1, -1, 0, 0]
def atL (l : List Int) (op : Int) : Int := l.getD op.toNat 0
/-- a byte of a name -/
def LetterP (c : Int) : Prop := (97 ≤ c ∧ c ≤ 122) ∨ (65 ≤ c ∧ c ≤ 90) ∨ c = 95
def NameP (s : ByteArray) : Prop := 1 ≤ s.size ∧ s.size ≤ 24 ∧ ∀ i : Nat, i < s.size → LetterP (btF s i) ∨ (i ≠ 0 ∧ ((48 ≤ btF s i ∧ btF s i ≤ 57) ∨ btF s i = 46))
/-- a node by itself, but for its levels -/
def NodeP (op n : Int) (s : ByteArray) (k m : Nat) : Prop :=
  1 ≤ op ∧ op ≤ 30 ∧ 0 ≤ n ∧ n ≤ atL mostLt op ∧ (if atL levL op = -1 then k ≤ 8 ∧ NameP s else (k : Int) = atL levL op ∧ s.size = 0) ∧ (if op = 28 then 3 ≤ m ∧ m ≤ 11 else (m : Int) = atL partsL op)
end Go.VM

/- The rows of the seat, from the contracts: what all laws share. -/
namespace Go.VM
open Go.Proofs Go Go.ChangeShapes Go.WideShapes Go.ChangeAt Go.RowKit
open Go.Proofs.YtfbecfnagidioaaGreatDoor
set_option maxRecDepth 100000
set_option linter.unusedVariables false
theorem own : ownKnob Tryz.prog.godebug = none := by kernel_rfl
theorem laidOut : laidOutB Tryz.prog = true := by kernel_rfl
theorem gN : Tryz.prog.globalNamed "internal/strconv.uint64pow10" = some 0 := by kernel_rfl
theorem gNType : (Tryz.prog.globals[0]?).map (·.type) = some 209 := by kernel_rfl
theorem cellsA : Tryz.prog.cellsOf 151 = 1 := by kernel_rfl
theorem cellsB : Tryz.prog.cellsOf 209 = 20 := by kernel_rfl
noncomputable def laidL : List (String × DataW Unit) := [("math/bits.deBruijn32tab", Rows.laid_math_bits_deBruijn32tab), ("math/bits.deBruijn64tab", Rows.laid_math_bits_deBruijn64tab), ("internal/strconv.uint64pow10", Rows.laid_internal_strconv_uint64pow10)]
theorem laid_filter : (laidL.filter fun x => x.1 == "internal/strconv.uint64pow10") = [("internal/strconv.uint64pow10", Lib.tabData .u64 Lib.pow10Tab)] := by kernel_rfl
theorem glob_of (W : World) (h : laidMetH Tryz.prog laidL W) : ∀ b k v, Glb.G b k v → b < W.heap.size ∧ W.cell? ⟨b, k, none⟩ = v := by
  have h2 := laidMetH.filter (fun x => x.1 == "internal/strconv.uint64pow10") h
  rw [laid_filter] at h2
  have e : laidMetH Tryz.prog [("internal/strconv.uint64pow10", Lib.tabData .u64 Lib.pow10Tab)] W = laidMet Tryz.prog [("internal/strconv.uint64pow10", Lib.tabData .u64 Lib.pow10Tab)] W := rfl
  rw [e] at h2
  have tab : Lib.TabIs Tryz.prog W "internal/strconv.uint64pow10" .u64 Lib.pow10Tab := Lib.tabIs_of_head gN gNType Tryz.underlying209 Tryz.underlying151 cellsA cellsB h2
  unfold Lib.TabIs World.var? at tab
  have gN' : Tryz.prog.globalNamed "internal/strconv.uint64pow10" = some 0 := gN
  rw [gN'] at tab
  simp only [Option.bind_some] at tab
  split at tab
  · rename_i cs t fr hc
    simp only [Option.some.injEq] at tab
    have hl : (0 : Nat) < W.heap.size := (Array.getElem?_eq_some_iff.1 hc).1
    have hsz : cs.size = 20 := by rw [tab]; simp [Lib.pow10Tab]
    rintro b k v (h | ⟨rfl, ⟨hk, rfl⟩ | ⟨rfl, rfl⟩⟩)
    · exact h.elim
    · refine ⟨hl, ?_⟩
      unfold World.cell?
      rw [hc]
      simp [tab, Lib.pow10Tab, hk]
    · refine ⟨hl, ?_⟩
      unfold World.cell?
      rw [hc]
      simp [hsz]
  · cases tab
noncomputable def laidWorld (os : Os) : World := World.laidAll Tryz.prog os laidL
theorem laid_met (os : Os) (args : Array Value) : laidMet Tryz.prog laidL ((laidWorld os).forCall (fun _ _ => 0) ⟨#[], args, []⟩).memory :=
  laidMet_laidAll args (by kernel_rfl) (by kernel_rfl)
theorem laid_shaped (os : Os) (args : Array Value) : ((laidWorld os).forCall (fun _ _ => 0) ⟨#[], args, []⟩).Shaped Tryz.prog :=
  World.shaped_of_ZipB (by kernel_rfl) (by kernel_rfl)

/-! ### Arguments -/
def argTs : List TypeId := [3, 9, 39, 44, 41, 22, 25, 23, 53]
theorem argTs_ok : ∀ t, t ∈ argTs → plainT Tryz.prog argTs t = true := List.all_eq_true.1 (by kernel_rfl)
variable {H : Type} {enc : TypeId × Value → H} {W : World} {base b0 : Nat} {sp : Nat → Bool} {held : Bool} {r : Reach} {v : Value} {d : DataW H} {ps : List MemPlace}
def intD : D → Int
  | .int _ n => n
  | _ => 0
theorem lvar_shp {g : Nat → D} (h : Shp Tryz.prog 44 ((List.range (Tryz.prog.cellsOf 44)).map g)) : g 0 = .int .i64 (intD (g 0)) ∧ g 1 = .int .i64 (intD (g 1)) := by
  have c : Tryz.prog.cellsOf 44 = 2 := by kernel_rfl
  rw [c] at h
  have h := h.struct_inv Tryz.underlying44
  generalize hd : List.map g (List.range 2) = ds at h
  cases h with | @cons _ _ d1 d2 h1 _ h2 =>
  obtain ⟨a, rfl, _⟩ := h1.int_inv Tryz.underlying3
  cases h2 with | @cons _ _ d3 d4 h3 _ h4 =>
  obtain ⟨b, rfl, _⟩ := h3.int_inv Tryz.underlying3
  cases h4
  simp [List.range_succ] at hd
  rw [hd.1, hd.2]
  exact ⟨rfl, rfl⟩
theorem vars_shp {ds : List D} (h : Shp Tryz.prog 39 ds) : ∃ (n : Nat) (g : Nat → Nat → D) (V P0 : Nat → Int), ds = [.sl n 2 g] ∧ n ≤ maxLen ∧ Deq (.sl n 2 g) (.sl n 2 (lvF V P0)) := by
  obtain ⟨n, g, e, hn, hall⟩ := h.slice_inv Tryz.underlying39
  have c : Tryz.prog.cellsOf 44 = 2 := by kernel_rfl
  refine ⟨n, g, fun i => intD (g i 0), fun i => intD (g i 1), by rw [e, c], hn, .sl _ _ _ _ fun i j hi hj => .of_eq ?_⟩
  obtain ⟨h1, h2⟩ := lvar_shp (hall i hi)
  match j, hj with
  | 0, _ => exact h1
  | 1, _ => exact h2
theorem level_shp {ds : List D} (h : Shp Tryz.prog 41 ds) : ∃ (c : Int) (n : Nat) (g : Nat → Nat → D) (V P0 : Nat → Int), ds = [.int .i64 c, .sl n 2 g] ∧ n ≤ maxLen ∧ Deq (.sl n 2 g) (.sl n 2 (lvF V P0)) := by
  have h := h.struct_inv Tryz.underlying41
  generalize hd : ds = ds' at h
  cases h with | @cons _ _ d1 d2 h1 _ h2 =>
  obtain ⟨c, rfl, _⟩ := h1.int_inv Tryz.underlying3
  cases h2 with | @cons _ _ d3 d4 h3 _ h4 =>
  obtain ⟨n, g, V, P0, rfl, hn, he⟩ := vars_shp h3
  cases h4
  exact ⟨c, n, g, V, P0, rfl, hn, he⟩
theorem levels_shp {ds : List D} (h : Shp Tryz.prog 22 ds) : ∃ (m : Nat) (g : Nat → Nat → D) (C : Nat → Int) (N : Nat → Nat) (V P0 : Nat → Nat → Int), ds = [.sl m 2 g] ∧ m ≤ maxLen ∧ (∀ i, N i < 2 ^ 63) ∧ Deq (.sl m 2 g) (.sl m 2 (lsF C N V P0)) := by
  obtain ⟨m, g, e, hm, hall⟩ := h.slice_inv Tryz.underlying22
  have c : Tryz.prog.cellsOf 41 = 2 := by kernel_rfl
  rw [c] at hall e
  have each : ∀ i, i < m → ∃ (q : Int × Nat × (Nat → Int) × (Nat → Int)), g i 0 = .int .i64 q.1 ∧ q.2.1 < 2 ^ 63 ∧ Deq (g i 1) (.sl q.2.1 2 (lvF q.2.2.1 q.2.2.2)) := fun i hi => by
    obtain ⟨c, n, g', V, P0, e, hn, he⟩ := level_shp (hall i hi)
    simp [List.range_succ] at e
    exact ⟨(c, n, V, P0), e.1, by unfold maxLen at hn; dsimp only; omega, by rw [e.2]; exact he⟩
  let Q : Nat → Int × Nat × (Nat → Int) × (Nat → Int) := fun i => if h : i < m then (each i h).choose else (0, 0, fun _ => 0, fun _ => 0)
  have hQ : ∀ i, i < m → g i 0 = .int .i64 (Q i).1 ∧ (Q i).2.1 < 2 ^ 63 ∧ Deq (g i 1) (.sl (Q i).2.1 2 (lvF (Q i).2.2.1 (Q i).2.2.2)) := fun i hi => by
    simp only [Q, dif_pos hi]
    exact (each i hi).choose_spec
  refine ⟨m, g, fun i => (Q i).1, fun i => (Q i).2.1, fun i => (Q i).2.2.1, fun i => (Q i).2.2.2, e, hm, fun i => ?_, .sl _ _ _ _ fun i j hi hj => ?_⟩
  · by_cases hi : i < m
    · exact (hQ i hi).2.1
    · simp only [Q, dif_neg hi]; decide
  · match j, hj with
    | 0, _ => exact .of_eq (hQ i hi).1
    | 1, _ => exact (hQ i hi).2.2
/-- the five columns of a term -/
def Col (t : Tm) (d0 d1 d2 d3 d4 : D) : Prop := Deq d0 (tmD t 0) ∧ Deq d1 (tmD t 1) ∧ Deq d2 (tmD t 2) ∧ Deq d3 (tmD t 3) ∧ Deq d4 (tmD t 4)
theorem term_shp (d4 : D) : ∀ d0 d1 d2 d3, Shp Tryz.prog 25 [d0, d1, d2, d3, d4] → ∃ t, Col t d0 d1 d2 d3 d4 := by
  have five : ∀ ds : List D, Shp Tryz.prog 25 ds → ∃ (op n : Int) (s : ByteArray) (k : Nat) (gu : Nat → Nat → D) (C : Nat → Int) (N : Nat → Nat) (V P0 : Nat → Nat → Int) (m : Nat) (gl : Nat → Nat → D),
      ds = [.int .i64 op, .int .i64 n, .str s, .sl k 2 gu, .sl m 5 gl] ∧ TmOk op n s k N m ∧ Deq (.sl k 2 gu) (.sl k 2 (lsF C N V P0)) ∧ ∀ i, i < m → Shp Tryz.prog 25 [gl i 0, gl i 1, gl i 2, gl i 3, gl i 4] := fun ds h => by
    have h := h.struct_inv Tryz.underlying25
    generalize hd : ds = ds' at h
    cases h with | @cons _ _ d1 d2 h1 _ h2 =>
    obtain ⟨op, rfl, w1⟩ := h1.int_inv Tryz.underlying3
    cases h2 with | @cons _ _ d3 d4 h3 _ h4 =>
    obtain ⟨n, rfl, w2⟩ := h3.int_inv Tryz.underlying3
    cases h4 with | @cons _ _ d5 d6 h5 _ h6 =>
    obtain ⟨s, rfl, w3⟩ := h5.str_inv Tryz.underlying9
    cases h6 with | @cons _ _ d7 d8 h7 _ h8 =>
    obtain ⟨k, gu, C, N, V, P0, rfl, w4, w5, w6⟩ := levels_shp h7
    cases h8 with | @cons _ _ d9 d10 h9 _ h10 =>
    obtain ⟨m, gl, e, w7, hall⟩ := h9.slice_inv Tryz.underlying23
    have c : Tryz.prog.cellsOf 25 = 5 := by kernel_rfl
    rw [c] at hall e
    subst e
    cases h10
    refine ⟨op, n, s, k, gu, C, N, V, P0, m, gl, rfl, ⟨?_, ?_, by unfold maxLen at w3; omega, by unfold maxLen at w4; omega, w5, by unfold maxLen at w7; omega⟩, w6, fun i hi => hall i hi⟩
    · simpa [Lit.wf, IntKind.min, IntKind.max, IntKind.bits, IntKind.signed] using w1
    · simpa [Lit.wf, IntKind.min, IntKind.max, IntKind.bits, IntKind.signed] using w2
  induction d4 with
  | sl m sz g ih =>
    intro d0 d1 d2 d3 h
    obtain ⟨op, n, s, k, gu, C, N, V, P0, m', gl, e, ok, hu, hall⟩ := five _ h
    simp only [List.cons.injEq, D.sl.injEq, and_true] at e
    obtain ⟨rfl, rfl, rfl, rfl, rfl, rfl, rfl⟩ := e
    have each : ∀ i, i < m → ∃ t, Col t (g i 0) (g i 1) (g i 2) (g i 3) (g i 4) := fun i hi => ih i 4 _ _ _ _ (hall i hi)
    let K : Nat → Tm := fun i => if h : i < m then (each i h).choose else .leaf
    have hK : ∀ i, i < m → Col (K i) (g i 0) (g i 1) (g i 2) (g i 3) (g i 4) := fun i hi => by
      simp only [K, dif_pos hi]
      exact (each i hi).choose_spec
    obtain ⟨t0, t1, t2, t3, t4⟩ := tmD_nd op n s k C N V P0 m ok K
    refine ⟨.nd op n s k C N V P0 m ok K, ?_⟩
    unfold Col
    rw [t0, t1, t2, t3, t4]
    refine ⟨.refl _, .refl _, .refl _, hu, .sl _ _ _ _ fun i j hi hj => ?_⟩
    rw [dif_pos hi]
    obtain ⟨q0, q1, q2, q3, q4⟩ := hK i hi
    match j, hj with
    | 0, _ => exact q0
    | 1, _ => exact q1
    | 2, _ => exact q2
    | 3, _ => exact q3
    | 4, _ => exact q4
  | _ =>
    intro d0 d1 d2 d3 h
    obtain ⟨op, n, s, k, gu, C, N, V, P0, m', gl, e, _⟩ := five _ h
    simp at e
theorem open_term (hval : Value.okWide Tryz.prog W r b0 25 v) (hd : DataW.Trod enc Tryz.prog W base sp held 25 v d ps) :
    ∃ t : Tm, ∀ ι H, RepA W (fun b _ => b < W.heap.size) ι H v (tm t) := by
  have lim : Lim := ⟨fun _ _ => True⟩
  obtain ⟨cs, rfl, hsz⟩ := okWide_struct Tryz.underlying25 hval
  obtain ⟨fuel, hf⟩ := hd
  obtain ⟨ds, h1, h2, h3, h4⟩ := trod_open argTs_ok fuel 25 _ _ (by decide) hf
  have c : Tryz.prog.cellsOf 25 = 5 := by kernel_rfl
  have hl : ds.length = 5 := by rw [h1, h2, c]
  match ds, hl with
  | [d0, d1, d2, d3, d4], _ =>
    obtain ⟨t, q0, q1, q2, q3, q4⟩ := term_shp d4 _ _ _ _ h4
    refine ⟨t, fun ι H => .agg cs.toList _ ?_ fun k hk => ?_⟩
    · simpa [Value.cells] using h1.symm
    · match k, hk with
      | 0, _ => exact .d _ _ ((h3 0 (by simp)).deq q0)
      | 1, _ => exact .d _ _ ((h3 1 (by simp)).deq q1)
      | 2, _ => exact .d _ _ ((h3 2 (by simp)).deq q2)
      | 3, _ => exact .d _ _ ((h3 3 (by simp)).deq q3)
      | 4, _ => exact .d _ _ ((h3 4 (by simp)).deq q4)
end Go.VM

/- A list of levels as an argument. -/
namespace Go.VM
open Go.Proofs Go Go.ChangeShapes Go.WideShapes Go.ChangeAt Go.RowKit
open Go.Proofs.YtfbecfnagidioaaGreatDoor
set_option maxRecDepth 100000
set_option linter.unusedVariables false
variable {H : Type} {enc : TypeId × Value → H} {W : World} {base b0 : Nat} {sp : Nat → Bool} {held : Bool} {r : Reach} {v : Value} {d : DataW H} {ps : List MemPlace}
theorem open_levels (hval : Value.okWide Tryz.prog W r b0 22 v) (hd : DataW.Trod enc Tryz.prog W base sp held 22 v d ps) :
    ∃ (m : Nat) (C : Nat → Int) (N : Nat → Nat) (V P0 : Nat → Nat → Int), m < 2 ^ 63 ∧ (∀ i, i < m → N i < 2 ^ 63) ∧ ∀ ι H, RepA W (fun b _ => b < W.heap.size) ι H v (.d (.sl m 2 (lsF C N V P0))) := by
  have lim : Lim := ⟨fun _ _ => True⟩
  obtain ⟨a, len, cap, rfl⟩ := okWide_slice Tryz.underlying22 hval
  obtain ⟨fuel, hf⟩ := hd
  obtain ⟨ds, h1, h2, h3, h4⟩ := trod_open argTs_ok fuel 22 _ _ (by decide) hf
  obtain ⟨m, g, C, N, V, P0, rfl, hm, hN, hq⟩ := levels_shp h4
  exact ⟨m, C, N, V, P0, by unfold maxLen at hm; omega, fun i _ => hN i, fun ι H => .d _ _ ((h3 0 (Nat.zero_lt_succ _)).deq hq)⟩
end Go.VM

namespace Go.VM
open Go.Proofs Go
set_option maxRecDepth 100000
set_option linter.unusedVariables false
set_option linter.unusedSimpArgs false
/-- a level, as a value -/
abbrev lv (c : Int) (n : Nat) (V P : Nat → Int) : A := .agg [.d (.int .i64 c), .d (.sl n 2 (lvF V P))]
def FindP (V : Nat → Int) (n : Nat) (v r : Int) : Prop := (r = -1 ∧ ∀ i, i < n → V i ≠ v) ∨ ∃ k : Nat, k < n ∧ r = k ∧ V k = v

theorem find1 (a b : Int) (v : Int) : VCalls (P ()) 171 [.agg [.d (.int .i64 a), .d (.int .i64 b)], .ptr 0 0] [.box [.d (.int .i64 v)]] (fun r H => (∃ G, H = .box [.d (.int .i64 v)] :: G) ∧ ∃ x : Bool, x = decide (a = v) ∧ r = .d (.bool x)) := by
  refine VCalls_of_Wo (Tf := @T) @tabOk [] 400 Tryz.func171 rfl (fun {_} => by kernel_rfl) (Nat.le_of_ble_eq_true rfl) @fun ⟨_, _, _, _, _, _, _, _, _, _, _, _, _, _, _, _, _, _, _, _, _, _, _, _, _, _, _, _, _, _, _, _, _, _, _, _, _, _, wp, wf⟩ nH R hnH hR => ?_
  subst hnH
  cbv
  try simp only [wp, (show ∀ n : Nat, _ = n from fun n => wf.2.2.2.2.2.2.2.2.2.2.2.2.2.1 (Int.ofNat n)), getL, takeL, dropL, TK.isAgg, reduceIte]
  replace hR := fun x G h => hR (.d (.bool x)) _ ⟨⟨G, rfl⟩, x, h, rfl⟩
  repeat' first | with_reducible refine And.intro ?_ ?_ | intro c9
  · exact hR _ _ (by simp [c9])
  · exact hR _ _ (by simp [c9])

theorem find2 (n : Nat) (V P0 : Nat → Int) (v : Int) (hn : n < 2 ^ 62) : VCalls (P ()) 170 [.d (.sl n 2 (lvF V P0)), .clo 171 [] [.ptr 0 0]] [.box [.d (.int .i64 v)]] (fun r H => (∃ G, H = .box [.d (.int .i64 v)] :: G) ∧ ∃ x : Int, FindP V n v x ∧ r = .d (.int .i64 x)) := by
  refine VCalls_of_Wo (Tf := @T) @tabOk [] 400 Tryz.func170 rfl (fun {_} => by kernel_rfl) (Nat.le_of_ble_eq_true rfl) @fun ⟨_, _, _, _, _, _, _, _, _, _, _, _, _, _, _, _, _, _, _, _, _, _, _, _, _, _, _, _, _, _, _, _, _, _, _, _, _, _, wp, wf⟩ nH R hnH hR => ?_
  subst hnH
  cbv
  try simp only [wp, (show ∀ n : Nat, _ = n from fun n => wf.2.2.2.2.2.2.2.2.2.2.2.2.2.1 (Int.ofNat n)), getL, takeL, dropL, TK.isAgg, reduceIte]
  replace hR := fun x G h => hR (.d (.int .i64 x)) _ ⟨⟨G, rfl⟩, x, h, rfl⟩
  refine loopO (Tf := @T) @tabOk [] 400 (fun i : Nat => ⟨[.d (.sl n 2 (lvF V P0)), .clo 171 [] [.ptr 0 0], .undef, .undef, .undef, .undef, .d (.sl n 2 (lvF V P0)), .d (.int .i64 n), .d (.int .i64 i), .undef, .undef, .undef, .undef, .undef, .undef, .undef, .undef, .undef, .undef], [.box [.d (.int .i64 v)]]⟩) (fun i => n - i) (fun i => i ≤ n ∧ ∀ k, k < i → V k ≠ v) 0 ⟨Nat.zero_le _, fun k hk => absurd hk (Nat.not_lt_zero _)⟩ (fun {_} => by kernel_rfl) ?_ (fun i => rfl) @fun ⟨_, _, _, _, _, _, _, _, _, _, _, _, _, _, _, _, _, _, _, _, _, _, _, _, _, _, _, _, _, _, _, _, _, _, _, _, _, _, wpa, wfa⟩ i Bk hi hBk => ?_
  · (cbv; try simp only [wf, exD, exL, exT, exB, exA, leLs, leL_d, leL_undef, leL_nils, leA_nils, deq_refl, deq_int, deq_bool, deq_str, and_true, true_and, AObj.iter.injEq, nc, nc']; try simp (disch := omega) only [w64, w32, wu8])
    rfl
  (cbv; try simp only [wp, (show ∀ n : Nat, _ = n from fun n => wf.2.2.2.2.2.2.2.2.2.2.2.2.2.1 (Int.ofNat n)), (show _ = (0 : Nat) from wf.2.2.2.2.2.2.2.2.2.2.2.2.2.1 0), wpa, (show ∀ n : Nat, _ = n from fun n => wfa.2.2.2.2.2.2.2.2.2.2.2.2.2.1 (Int.ofNat n)), (show _ = (0 : Nat) from wfa.2.2.2.2.2.2.2.2.2.2.2.2.2.1 0), getL, takeL, dropL, TK.isAgg, reduceIte])
  obtain ⟨i1, i2⟩ := hi
  refine ⟨fun e => ?_, fun e => ?_⟩
  · have e : i < n := (by (try simp only [wf, wfa, nc, nc', Int.toNat_natCast, bsz, ByteArray.size_append, List.length_cons, List.length_nil] at *); (try simp (disch := omega) only [w64, w32, wu8] at *); first | done | omega)
    (refine Later.mk ?_; cbv; try simp only [wp, (show ∀ n : Nat, _ = n from fun n => wf.2.2.2.2.2.2.2.2.2.2.2.2.2.1 (Int.ofNat n)), (show _ = (0 : Nat) from wf.2.2.2.2.2.2.2.2.2.2.2.2.2.1 0), wpa, (show ∀ n : Nat, _ = n from fun n => wfa.2.2.2.2.2.2.2.2.2.2.2.2.2.1 (Int.ofNat n)), (show _ = (0 : Nat) from wfa.2.2.2.2.2.2.2.2.2.2.2.2.2.1 0), getL, takeL, dropL, TK.isAgg, reduceIte])
    repeat' first | with_reducible refine And.intro ?_ ?_ | intro c9
    all_goals first | exact (by (try simp only [wf, wfa, nc, nc', Int.toNat_natCast, bsz, ByteArray.size_append, List.length_cons, List.length_nil] at *); (try simp (disch := omega) only [w64, w32, wu8] at *); first | done | omega) | trivial | skip
    refine CallW.within (find1 (V i) (P0 i) v) [0] (by ((try simp only [wf, wfa, nc, nc', Int.toNat_natCast, bsz, ByteArray.size_append, List.length_cons, List.length_nil] at *); (try simp (disch := omega) only [w64, w32, wu8] at *)); rfl) ⟨rfl, trivial⟩ rfl ?_
    rintro _ _ ⟨⟨G, rfl⟩, x, hx, rfl⟩
    refine ⟨[.box [.d (.int .i64 v)]], G, rfl, Nat.le_refl _, ⟨trivial, trivial⟩, rfl, ?_⟩
    cases x <;> (cbv; try simp only [wp, (show ∀ n : Nat, _ = n from fun n => wf.2.2.2.2.2.2.2.2.2.2.2.2.2.1 (Int.ofNat n)), (show _ = (0 : Nat) from wf.2.2.2.2.2.2.2.2.2.2.2.2.2.1 0), wpa, (show ∀ n : Nat, _ = n from fun n => wfa.2.2.2.2.2.2.2.2.2.2.2.2.2.1 (Int.ofNat n)), (show _ = (0 : Nat) from wfa.2.2.2.2.2.2.2.2.2.2.2.2.2.1 0), getL, takeL, dropL, TK.isAgg, reduceIte]) <;> (refine Later.mk ?_; cbv; try simp only [wp, (show ∀ n : Nat, _ = n from fun n => wf.2.2.2.2.2.2.2.2.2.2.2.2.2.1 (Int.ofNat n)), (show _ = (0 : Nat) from wf.2.2.2.2.2.2.2.2.2.2.2.2.2.1 0), wpa, (show ∀ n : Nat, _ = n from fun n => wfa.2.2.2.2.2.2.2.2.2.2.2.2.2.1 (Int.ofNat n)), (show _ = (0 : Nat) from wfa.2.2.2.2.2.2.2.2.2.2.2.2.2.1 0), getL, takeL, dropL, TK.isAgg, reduceIte])
    · refine hBk (i + 1) _ (by omega) ⟨by omega, fun k hk => ?_⟩ ?_
      · by_cases e2 : k = i
        · subst e2; simpa using hx
        · exact i2 k (by omega)
      · (cbv; try simp only [wf, wfa, exD, exL, exT, exB, exA, leLs, leL_d, leL_undef, leL_nils, leA_nils, deq_refl, deq_int, deq_bool, deq_str, and_true, true_and, AObj.iter.injEq, nc, nc']; try simp (disch := omega) only [w64, w32, wu8])
        omega
    · exact hR _ _ (.inr ⟨i, e, rfl, by simpa using hx⟩)
  · have e : i = n := (by (try simp only [wf, wfa, nc, nc', Int.toNat_natCast, bsz, ByteArray.size_append, List.length_cons, List.length_nil] at *); (try simp (disch := omega) only [w64, w32, wu8] at *); first | done | omega)
    subst e
    (refine Later.mk ?_; cbv; try simp only [wp, (show ∀ n : Nat, _ = n from fun n => wf.2.2.2.2.2.2.2.2.2.2.2.2.2.1 (Int.ofNat n)), (show _ = (0 : Nat) from wf.2.2.2.2.2.2.2.2.2.2.2.2.2.1 0), wpa, (show ∀ n : Nat, _ = n from fun n => wfa.2.2.2.2.2.2.2.2.2.2.2.2.2.1 (Int.ofNat n)), (show _ = (0 : Nat) from wfa.2.2.2.2.2.2.2.2.2.2.2.2.2.1 0), getL, takeL, dropL, TK.isAgg, reduceIte])
    exact hR _ _ (.inl ⟨rfl, i2⟩)

theorem find (n : Nat) (V P0 : Nat → Int) (v : Int) (hn : n < 2 ^ 62) : VFun (P ()) 131 [.d (.sl n 2 (lvF V P0)), .d (.int .i64 v)] (fun r => ∃ x, FindP V n v x ∧ r = .d (.int .i64 x)) := by
  refine vfunO (Tf := @T) @tabOk [] 400 Tryz.func131 rfl (fun {_} => by kernel_rfl) rfl (Nat.le_of_ble_eq_true rfl) @fun ⟨_, _, _, _, _, _, _, _, _, _, _, _, _, _, _, _, _, _, _, _, _, _, _, _, _, _, _, _, _, _, _, _, _, _, _, _, _, _, wp, wf⟩ R hR => ?_
  cbv
  try simp only [wp, (show ∀ n : Nat, _ = n from fun n => wf.2.2.2.2.2.2.2.2.2.2.2.2.2.1 (Int.ofNat n)), getL, takeL, dropL, TK.isAgg, reduceIte]
  refine CallW.of (find2 n V P0 v hn) ?_
  rintro _ _ ⟨⟨G, rfl⟩, x, hx, rfl⟩
  (cbv; try simp only [wp, (show ∀ n : Nat, _ = n from fun n => wf.2.2.2.2.2.2.2.2.2.2.2.2.2.1 (Int.ofNat n)), (show _ = (0 : Nat) from wf.2.2.2.2.2.2.2.2.2.2.2.2.2.1 0), getL, takeL, dropL, TK.isAgg, reduceIte])
  exact hR _ _ (.d (.int .i64 x)) (.d _) ⟨x, hx, rfl⟩

theorem most (n : Nat) (V P0 : Nat → Int) (hn : n < 2 ^ 62) : VFun (P ()) 136 [.d (.sl n 2 (lvF V P0))] (fun r => ∃ x, x = mostF P0 n ∧ r = .d (.int .i64 x)) := by
  refine vfunO (Tf := @T) @tabOk [] 400 Tryz.func136 rfl (fun {_} => by kernel_rfl) rfl (Nat.le_of_ble_eq_true rfl) @fun ⟨_, _, _, _, _, _, _, _, _, _, _, _, _, _, _, _, _, _, _, _, _, _, _, _, _, _, _, _, _, _, _, _, _, _, _, _, _, _, wp, wf⟩ R hR => ?_
  cbv
  try simp only [wp, (show ∀ n : Nat, _ = n from fun n => wf.2.2.2.2.2.2.2.2.2.2.2.2.2.1 (Int.ofNat n)), getL, takeL, dropL, TK.isAgg, reduceIte]
  replace hR := fun x H h => hR _ H _ (.d (.int .i64 x)) ⟨x, h, rfl⟩
  obtain ⟨mF, hmF⟩ : ∃ f_, f_ = mostF P0 := ⟨_, rfl⟩
  have m0 : mF 0 = -1 := by rw [hmF]; rfl
  have m1 : ∀ i, mF (i + 1) = max (mF i) (P0 i) := fun i => by rw [hmF]; rfl
  rw [← hmF] at hR
  refine loopO (Tf := @T) @tabOk [] 400 (fun i : Nat => ⟨[.d (.sl n 2 (lvF V P0)), .undef, .undef, .d (.int .i64 (mF i)), .undef, .undef, .d (.sl n 2 (lvF V P0)), .d (.int .i64 n), .d (.int .i64 i), .undef, .undef, .undef, .undef, .undef, .undef, .undef, .undef, .undef], []⟩) (fun i => n - i) (fun i => i ≤ n) 0 (Nat.zero_le _) (fun {_} => by kernel_rfl) ?_ (fun i => rfl) @fun ⟨_, _, _, _, _, _, _, _, _, _, _, _, _, _, _, _, _, _, _, _, _, _, _, _, _, _, _, _, _, _, _, _, _, _, _, _, _, _, wpa, wfa⟩ i Bk hi hBk => ?_
  · (cbv; try simp only [wf, exD, exL, exT, exB, exA, leLs, leL_d, leL_undef, leL_nils, leA_nils, deq_refl, deq_int, deq_bool, deq_str, and_true, true_and, AObj.iter.injEq, nc, nc']; try simp (disch := omega) only [w64, w32, wu8])
    exact ⟨m0.symm, rfl⟩
  (cbv; try simp only [wp, (show ∀ n : Nat, _ = n from fun n => wf.2.2.2.2.2.2.2.2.2.2.2.2.2.1 (Int.ofNat n)), (show _ = (0 : Nat) from wf.2.2.2.2.2.2.2.2.2.2.2.2.2.1 0), wpa, (show ∀ n : Nat, _ = n from fun n => wfa.2.2.2.2.2.2.2.2.2.2.2.2.2.1 (Int.ofNat n)), (show _ = (0 : Nat) from wfa.2.2.2.2.2.2.2.2.2.2.2.2.2.1 0), getL, takeL, dropL, TK.isAgg, reduceIte])
  refine ⟨fun e => ?_, fun e => ?_⟩
  · have e : i < n := (by (try simp only [wf, wfa, nc, nc', Int.toNat_natCast, bsz, ByteArray.size_append, List.length_cons, List.length_nil] at *); (try simp (disch := omega) only [w64, w32, wu8] at *); first | done | omega)
    (refine Later.mk ?_; cbv; try simp only [wp, (show ∀ n : Nat, _ = n from fun n => wf.2.2.2.2.2.2.2.2.2.2.2.2.2.1 (Int.ofNat n)), (show _ = (0 : Nat) from wf.2.2.2.2.2.2.2.2.2.2.2.2.2.1 0), wpa, (show ∀ n : Nat, _ = n from fun n => wfa.2.2.2.2.2.2.2.2.2.2.2.2.2.1 (Int.ofNat n)), (show _ = (0 : Nat) from wfa.2.2.2.2.2.2.2.2.2.2.2.2.2.1 0), getL, takeL, dropL, TK.isAgg, reduceIte])
    repeat' first | with_reducible refine And.intro ?_ ?_ | intro c9
    all_goals first | exact (by (try simp only [wf, wfa, nc, nc', Int.toNat_natCast, bsz, ByteArray.size_append, List.length_cons, List.length_nil] at *); (try simp (disch := omega) only [w64, w32, wu8] at *); first | done | omega) | trivial | skip
    all_goals
      refine hBk (i + 1) _ (by omega) (by omega) ?_
      (cbv; try simp only [wf, wfa, exD, exL, exT, exB, exA, leLs, leL_d, leL_undef, leL_nils, leA_nils, deq_refl, deq_int, deq_bool, deq_str, and_true, true_and, AObj.iter.injEq, nc, nc']; try simp (disch := omega) only [w64, w32, wu8])
      ((try simp only [wf, wfa, nc, nc', Int.toNat_natCast, bsz, ByteArray.size_append, List.length_cons, List.length_nil] at *); (try simp (disch := omega) only [w64, w32, wu8] at *))
      exact ⟨by rw [m1]; split <;> omega, by omega⟩
  · have e : i = n := (by (try simp only [wf, wfa, nc, nc', Int.toNat_natCast, bsz, ByteArray.size_append, List.length_cons, List.length_nil] at *); (try simp (disch := omega) only [w64, w32, wu8] at *); first | done | omega)
    subst e
    (refine Later.mk ?_; cbv; try simp only [wp, (show ∀ n : Nat, _ = n from fun n => wf.2.2.2.2.2.2.2.2.2.2.2.2.2.1 (Int.ofNat n)), (show _ = (0 : Nat) from wf.2.2.2.2.2.2.2.2.2.2.2.2.2.1 0), wpa, (show ∀ n : Nat, _ = n from fun n => wfa.2.2.2.2.2.2.2.2.2.2.2.2.2.1 (Int.ofNat n)), (show _ = (0 : Nat) from wfa.2.2.2.2.2.2.2.2.2.2.2.2.2.1 0), getL, takeL, dropL, TK.isAgg, reduceIte])
    exact hR _ _ rfl
theorem notValid {c : Int} {n : Nat} {V P0 : Nat → Int} {i : Nat} (hi : i < n) (h : ¬ PartP V P0 i) : false = true ↔ ValidP c n V P0 := ⟨fun h => (by cases h), fun h2 => absurd (h2.2.2.2 i hi) h⟩
theorem Valid (c : Int) (n : Nat) (V P0 : Nat → Int) (hn : n < 2 ^ 63) : VFun (P ()) 84 [lv c n V P0] (fun r => ∃ b : Bool, (b = true ↔ ValidP c n V P0) ∧ r = .d (.bool b)) := by
  refine vfunO (Tf := @T) @tabOk [] 400 Tryz.func84 rfl (fun {_} => by kernel_rfl) rfl (Nat.le_of_ble_eq_true rfl) @fun ⟨_, _, _, _, _, _, _, _, _, _, _, _, _, _, _, _, _, _, _, _, _, _, _, _, _, _, _, _, _, _, _, _, _, _, _, _, _, _, wp, wf⟩ R hR => ?_
  cbv
  try simp only [wp, (show ∀ n : Nat, _ = n from fun n => wf.2.2.2.2.2.2.2.2.2.2.2.2.2.1 (Int.ofNat n)), getL, takeL, dropL, TK.isAgg, reduceIte]
  replace hR := fun b H h => hR _ H _ (.d (.bool b)) ⟨b, h, rfl⟩
  repeat' first | with_reducible refine And.intro ?_ ?_ | intro c9
  all_goals (refine Later.mk ?_; cbv; try simp only [wp, (show ∀ n : Nat, _ = n from fun n => wf.2.2.2.2.2.2.2.2.2.2.2.2.2.1 (Int.ofNat n)), (show _ = (0 : Nat) from wf.2.2.2.2.2.2.2.2.2.2.2.2.2.1 0), getL, takeL, dropL, TK.isAgg, reduceIte])
  all_goals try exact hR _ _ (by ((try simp only [wf, nc, nc'] at *); (try simp (disch := omega) only [w64, w32, wu8] at *)); simp [ValidP]; omega)
  have c9 : n ≤ 8 := (by (try simp only [wf, nc, nc', Int.toNat_natCast, bsz, ByteArray.size_append, List.length_cons, List.length_nil] at *); (try simp (disch := omega) only [w64, w32, wu8] at *); first | done | omega)
  refine loopO (Tf := @T) @tabOk [] 400 (fun i : Nat => ⟨[lv c n V P0, .ptr 0 0, .undef, .undef, .undef, .undef, .undef, .undef, .undef, .undef, .undef, .undef, .undef, .undef, .undef, .undef, .undef, .undef, .undef, .undef, .d (.sl n 2 (lvF V P0)), .d (.int .i64 n), .d (.int .i64 i), .undef, .undef, .undef, .undef, .undef, .undef, .undef, .undef, .undef, .undef, .undef, .undef, .undef, .undef, .undef, .undef, .undef, .undef, .undef, .undef, .undef, .undef, .undef, .undef, .undef, .undef, .undef, .undef, .undef, .undef, .undef, .undef, .undef], [.box [.d (.int .i64 c), .d (.sl n 2 (lvF V P0))]]⟩) (fun i => n - i) (fun i => i ≤ n ∧ ∀ k, k < i → PartP V P0 k) 0 ⟨Nat.zero_le _, fun k hk => absurd hk (Nat.not_lt_zero _)⟩ (fun {_} => by kernel_rfl) ?_ (fun i => rfl) @fun ⟨_, _, _, _, _, _, _, _, _, _, _, _, _, _, _, _, _, _, _, _, _, _, _, _, _, _, _, _, _, _, _, _, _, _, _, _, _, _, wpa, wfa⟩ i Bk hi hBk => ?_
  · (cbv; try simp only [wf, exD, exL, exT, exB, exA, leLs, leL_d, leL_undef, leL_nils, leA_nils, deq_refl, deq_int, deq_bool, deq_str, and_true, true_and, AObj.iter.injEq, nc, nc']; try simp (disch := omega) only [w64, w32, wu8])
    rfl
  (cbv; try simp only [wp, (show ∀ n : Nat, _ = n from fun n => wf.2.2.2.2.2.2.2.2.2.2.2.2.2.1 (Int.ofNat n)), (show _ = (0 : Nat) from wf.2.2.2.2.2.2.2.2.2.2.2.2.2.1 0), wpa, (show ∀ n : Nat, _ = n from fun n => wfa.2.2.2.2.2.2.2.2.2.2.2.2.2.1 (Int.ofNat n)), (show _ = (0 : Nat) from wfa.2.2.2.2.2.2.2.2.2.2.2.2.2.1 0), getL, takeL, dropL, TK.isAgg, reduceIte])
  obtain ⟨i1, i2⟩ := hi
  refine ⟨fun e => ?_, fun e => ?_⟩
  · have e : i < n := (by (try simp only [wf, wfa, nc, nc', Int.toNat_natCast, bsz, ByteArray.size_append, List.length_cons, List.length_nil] at *); (try simp (disch := omega) only [w64, w32, wu8] at *); first | done | omega)
    (refine Later.mk ?_; cbv; try simp only [wp, (show ∀ n : Nat, _ = n from fun n => wf.2.2.2.2.2.2.2.2.2.2.2.2.2.1 (Int.ofNat n)), (show _ = (0 : Nat) from wf.2.2.2.2.2.2.2.2.2.2.2.2.2.1 0), wpa, (show ∀ n : Nat, _ = n from fun n => wfa.2.2.2.2.2.2.2.2.2.2.2.2.2.1 (Int.ofNat n)), (show _ = (0 : Nat) from wfa.2.2.2.2.2.2.2.2.2.2.2.2.2.1 0), getL, takeL, dropL, TK.isAgg, reduceIte])
    repeat' first | with_reducible refine And.intro ?_ ?_ | intro c9
    all_goals first
      | exact (by (try simp only [wf, wfa, nc, nc', Int.toNat_natCast, bsz, ByteArray.size_append, List.length_cons, List.length_nil] at *); (try simp (disch := omega) only [w64, w32, wu8] at *); first | done | omega)
      | trivial
      | ((refine Later.mk ?_; cbv; try simp only [wp, (show ∀ n : Nat, _ = n from fun n => wf.2.2.2.2.2.2.2.2.2.2.2.2.2.1 (Int.ofNat n)), (show _ = (0 : Nat) from wf.2.2.2.2.2.2.2.2.2.2.2.2.2.1 0), wpa, (show ∀ n : Nat, _ = n from fun n => wfa.2.2.2.2.2.2.2.2.2.2.2.2.2.1 (Int.ofNat n)), (show _ = (0 : Nat) from wfa.2.2.2.2.2.2.2.2.2.2.2.2.2.1 0), getL, takeL, dropL, TK.isAgg, reduceIte])
         exact hR false _ (notValid e (fun h => by obtain ⟨p1, p2, p3, p4, p5⟩ := h; exact (by (try simp only [wf, wfa, nc, nc', Int.toNat_natCast, bsz, ByteArray.size_append, List.length_cons, List.length_nil] at *); (try simp (disch := omega) only [w64, w32, wu8] at *); first | done | omega))))
      | skip
    all_goals
      refine (find _ V P0 _ (by ((try simp only [wf, wfa, nc, nc', Int.toNat_natCast, bsz, ByteArray.size_append, List.length_cons, List.length_nil] at *); (try simp (disch := omega) only [w64, w32, wu8] at *)); omega)).call ?_
      rintro _ ⟨x, hx, rfl⟩
      (cbv; try simp only [wp, (show ∀ n : Nat, _ = n from fun n => wf.2.2.2.2.2.2.2.2.2.2.2.2.2.1 (Int.ofNat n)), (show _ = (0 : Nat) from wf.2.2.2.2.2.2.2.2.2.2.2.2.2.1 0), wpa, (show ∀ n : Nat, _ = n from fun n => wfa.2.2.2.2.2.2.2.2.2.2.2.2.2.1 (Int.ofNat n)), (show _ = (0 : Nat) from wfa.2.2.2.2.2.2.2.2.2.2.2.2.2.1 0), getL, takeL, dropL, TK.isAgg, reduceIte])
      repeat' first | with_reducible refine And.intro ?_ ?_ | intro c9
      all_goals first
        | exact (by (try simp only [wf, wfa, nc, nc', Int.toNat_natCast, bsz, ByteArray.size_append, List.length_cons, List.length_nil] at *); (try simp (disch := omega) only [w64, w32, wu8] at *); first | done | omega)
        | trivial
        | skip
      all_goals first
        | ((refine Later.mk ?_; cbv; try simp only [wp, (show ∀ n : Nat, _ = n from fun n => wf.2.2.2.2.2.2.2.2.2.2.2.2.2.1 (Int.ofNat n)), (show _ = (0 : Nat) from wf.2.2.2.2.2.2.2.2.2.2.2.2.2.1 0), wpa, (show ∀ n : Nat, _ = n from fun n => wfa.2.2.2.2.2.2.2.2.2.2.2.2.2.1 (Int.ofNat n)), (show _ = (0 : Nat) from wfa.2.2.2.2.2.2.2.2.2.2.2.2.2.1 0), getL, takeL, dropL, TK.isAgg, reduceIte])
           refine hR false _ (notValid e (fun h => ?_))
           obtain ⟨p1, p2, p3, p4, p5⟩ := h
           rcases hx with ⟨rfl, hx⟩ | ⟨k, k1, rfl, k2⟩
           · exact absurd (show (0 : Int) ≤ -1 by assumption) (by omega)
           · ((try simp only [wf, wfa, nc, nc', Int.toNat_natCast, bsz, ByteArray.size_append, List.length_cons, List.length_nil] at *); (try simp (disch := omega) only [w64, w32, wu8] at *))
             exact p5 k (by omega) k2)
        | ((refine Later.mk ?_; cbv; try simp only [wp, (show ∀ n : Nat, _ = n from fun n => wf.2.2.2.2.2.2.2.2.2.2.2.2.2.1 (Int.ofNat n)), (show _ = (0 : Nat) from wf.2.2.2.2.2.2.2.2.2.2.2.2.2.1 0), wpa, (show ∀ n : Nat, _ = n from fun n => wfa.2.2.2.2.2.2.2.2.2.2.2.2.2.1 (Int.ofNat n)), (show _ = (0 : Nat) from wfa.2.2.2.2.2.2.2.2.2.2.2.2.2.1 0), getL, takeL, dropL, TK.isAgg, reduceIte])
           refine hBk (i + 1) _ (by omega) ⟨by omega, fun k hk => ?_⟩ ?_
           · by_cases e2 : k = i
             · subst e2
               rcases hx with ⟨rfl, hx⟩ | ⟨j, k1, rfl, k2⟩
               · ((try simp only [wf, wfa, nc, nc', Int.toNat_natCast, bsz, ByteArray.size_append, List.length_cons, List.length_nil] at *); (try simp (disch := omega) only [w64, w32, wu8] at *))
                 exact ⟨by omega, by omega, by omega, by omega, fun j hj => hx j (by omega)⟩
               · omega
             · exact i2 k (by omega)
           · (cbv; try simp only [wf, wfa, exD, exL, exT, exB, exA, leLs, leL_d, leL_undef, leL_nils, leA_nils, deq_refl, deq_int, deq_bool, deq_str, and_true, true_and, AObj.iter.injEq, nc, nc']; try simp (disch := omega) only [w64, w32, wu8])
             omega)
        | skip
      all_goals trace_state
  · have e : i = n := (by (try simp only [wf, wfa, nc, nc', Int.toNat_natCast, bsz, ByteArray.size_append, List.length_cons, List.length_nil] at *); (try simp (disch := omega) only [w64, w32, wu8] at *); first | done | omega)
    (refine Later.mk ?_; cbv; try simp only [wp, (show ∀ n : Nat, _ = n from fun n => wf.2.2.2.2.2.2.2.2.2.2.2.2.2.1 (Int.ofNat n)), (show _ = (0 : Nat) from wf.2.2.2.2.2.2.2.2.2.2.2.2.2.1 0), wpa, (show ∀ n : Nat, _ = n from fun n => wfa.2.2.2.2.2.2.2.2.2.2.2.2.2.1 (Int.ofNat n)), (show _ = (0 : Nat) from wfa.2.2.2.2.2.2.2.2.2.2.2.2.2.1 0), getL, takeL, dropL, TK.isAgg, reduceIte])
    exact hR _ _ (by ((try simp only [wf, wfa, nc, nc'] at *); (try simp (disch := omega) only [w64, w32, wu8] at *)); simp [ValidP]; subst e; exact ⟨by omega, by omega, by omega, i2⟩)
end Go.VM

namespace Go.VM
open Go.Proofs Go
set_option maxRecDepth 100000
set_option linter.unusedVariables false
set_option linter.unusedSimpArgs false
theorem RValid (c : Int) (n : Nat) (V P0 : Nat → Int) (hn : n < 2 ^ 63) : VFun (P ()) 91 [lv c n V P0] (fun r => ∃ b : Bool, (b = true ↔ ValidP c n V P0) ∧ r = .d (.bool b)) := by
  refine vfunO (Tf := @T) @tabOk [(12, upF 0 9)] 400 Tryz.func91 rfl (fun {_} => by kernel_rfl) rfl (Nat.le_of_ble_eq_true rfl) @fun ⟨_, _, _, _, _, _, _, _, _, _, _, _, _, _, _, _, _, _, _, _, _, _, _, _, _, _, _, _, _, _, _, _, _, _, _, _, _, _, wp, wf⟩ R hR => ?_
  cbv
  try simp only [wp, (show ∀ n : Nat, _ = n from fun n => wf.2.2.2.2.2.2.2.2.2.2.2.2.2.1 (Int.ofNat n)), getL, takeL, dropL, TK.isAgg, reduceIte]
  replace hR := fun b H h => hR _ H _ (.d (.bool b)) ⟨b, h, rfl⟩
  repeat' first | with_reducible refine And.intro ?_ ?_ | intro c9
  all_goals (refine Later.mk ?_; cbv; try simp only [wp, (show ∀ n : Nat, _ = n from fun n => wf.2.2.2.2.2.2.2.2.2.2.2.2.2.1 (Int.ofNat n)), (show _ = (0 : Nat) from wf.2.2.2.2.2.2.2.2.2.2.2.2.2.1 0), getL, takeL, dropL, TK.isAgg, reduceIte])
  all_goals try exact hR _ _ (by ((try simp only [wf, nc, nc'] at *); (try simp (disch := omega) only [w64, w32, wu8] at *)); simp [ValidP]; omega)
  have c9 : n ≤ 8 := (by (try simp only [wf, nc, nc', Int.toNat_natCast, bsz, ByteArray.size_append, List.length_cons, List.length_nil] at *); (try simp (disch := omega) only [w64, w32, wu8] at *); first | done | omega)
  refine loopO (Tf := @T) @tabOk [(12, upF 0 9)] 400 (fun i : Nat => ⟨[lv c n V P0, .ptr 0 0, .undef, .d (.int .i64 i), .undef, .undef, .undef, .undef, .undef, .undef, .undef, .undef, .undef, .undef, .undef, .undef, .undef, .undef, .undef, .undef, .undef, .undef, .undef, .undef, .undef, .undef, .undef, .undef, .undef, .undef, .undef, .undef, .undef, .undef, .undef, .undef, .undef, .undef, .undef, .undef, .undef, .undef, .undef, .undef, .undef, .undef, .undef, .undef, .undef, .undef, .undef, .undef, .undef, .undef, .undef, .undef, .undef, .undef, .undef, .undef, .undef, .undef, .undef, .undef], [.box [.d (.int .i64 c), .d (.sl n 2 (lvF V P0))]]⟩) (fun i => n - i) (fun i => i ≤ n ∧ ∀ k, k < i → PartP V P0 k) 0 ⟨Nat.zero_le _, fun k hk => absurd hk (Nat.not_lt_zero _)⟩ (fun {_} => by kernel_rfl) ?_ (fun i => rfl) @fun ⟨_, _, _, _, _, _, _, _, _, _, _, _, _, _, _, _, _, _, _, _, _, _, _, _, _, _, _, _, _, _, _, _, _, _, _, _, _, _, wpa, wfa⟩ i Bk hi hBk => ?_
  · (cbv; try simp only [wf, exD, exL, exT, exB, exA, leLs, leL_d, leL_undef, leL_nils, leA_nils, deq_refl, deq_int, deq_bool, deq_str, and_true, true_and, AObj.iter.injEq, nc, nc']; try simp (disch := omega) only [w64, w32, wu8])
    rfl
  (cbv; try simp only [wp, (show ∀ n : Nat, _ = n from fun n => wf.2.2.2.2.2.2.2.2.2.2.2.2.2.1 (Int.ofNat n)), (show _ = (0 : Nat) from wf.2.2.2.2.2.2.2.2.2.2.2.2.2.1 0), wpa, (show ∀ n : Nat, _ = n from fun n => wfa.2.2.2.2.2.2.2.2.2.2.2.2.2.1 (Int.ofNat n)), (show _ = (0 : Nat) from wfa.2.2.2.2.2.2.2.2.2.2.2.2.2.1 0), getL, takeL, dropL, TK.isAgg, reduceIte])
  obtain ⟨i1, i2⟩ := hi
  refine ⟨fun e => ?_, fun e => ?_⟩
  · have e : i < n := (by (try simp only [wf, wfa, nc, nc', Int.toNat_natCast, bsz, ByteArray.size_append, List.length_cons, List.length_nil] at *); (try simp (disch := omega) only [w64, w32, wu8] at *); first | done | omega)
    (refine Later.mk ?_; cbv; try simp only [wp, (show ∀ n : Nat, _ = n from fun n => wf.2.2.2.2.2.2.2.2.2.2.2.2.2.1 (Int.ofNat n)), (show _ = (0 : Nat) from wf.2.2.2.2.2.2.2.2.2.2.2.2.2.1 0), wpa, (show ∀ n : Nat, _ = n from fun n => wfa.2.2.2.2.2.2.2.2.2.2.2.2.2.1 (Int.ofNat n)), (show _ = (0 : Nat) from wfa.2.2.2.2.2.2.2.2.2.2.2.2.2.1 0), getL, takeL, dropL, TK.isAgg, reduceIte])
    repeat' first | with_reducible refine And.intro ?_ ?_ | intro c9
    all_goals first
      | exact (by (try simp only [wf, wfa, nc, nc', Int.toNat_natCast, bsz, ByteArray.size_append, List.length_cons, List.length_nil] at *); (try simp (disch := omega) only [w64, w32, wu8] at *); first | done | omega)
      | trivial
      | ((refine Later.mk ?_; cbv; try simp only [wp, (show ∀ n : Nat, _ = n from fun n => wf.2.2.2.2.2.2.2.2.2.2.2.2.2.1 (Int.ofNat n)), (show _ = (0 : Nat) from wf.2.2.2.2.2.2.2.2.2.2.2.2.2.1 0), wpa, (show ∀ n : Nat, _ = n from fun n => wfa.2.2.2.2.2.2.2.2.2.2.2.2.2.1 (Int.ofNat n)), (show _ = (0 : Nat) from wfa.2.2.2.2.2.2.2.2.2.2.2.2.2.1 0), getL, takeL, dropL, TK.isAgg, reduceIte])
         exact hR false _ (notValid e (fun h => by obtain ⟨p1, p2, p3, p4, p5⟩ := h; exact (by (try simp only [wf, wfa, nc, nc', Int.toNat_natCast, bsz, ByteArray.size_append, List.length_cons, List.length_nil] at *); (try simp (disch := omega) only [w64, w32, wu8] at *); first | done | omega))))
      | skip
    (refine Later.mk ?_; cbv; try simp only [wp, (show ∀ n : Nat, _ = n from fun n => wf.2.2.2.2.2.2.2.2.2.2.2.2.2.1 (Int.ofNat n)), (show _ = (0 : Nat) from wf.2.2.2.2.2.2.2.2.2.2.2.2.2.1 0), wpa, (show ∀ n : Nat, _ = n from fun n => wfa.2.2.2.2.2.2.2.2.2.2.2.2.2.1 (Int.ofNat n)), (show _ = (0 : Nat) from wfa.2.2.2.2.2.2.2.2.2.2.2.2.2.1 0), getL, takeL, dropL, TK.isAgg, reduceIte])
    refine loopO (Tf := @T) @tabOk [(12, upF 0 9)] 400 (fun k : Nat => ⟨[lv c n V P0, .ptr 0 0, .undef, .d (.int .i64 i), .ptr 1 0, .d (.int .i64 k), .undef, .undef, .undef, .undef, .undef, .undef, .undef, .undef, .undef, .undef, .undef, .undef, .undef, .undef, .undef, .undef, .undef, .undef, .undef, .undef, .undef, .undef, .undef, .undef, .undef, .undef, .undef, .undef, .undef, .undef, .undef, .undef, .undef, .undef, .undef, .undef, .undef, .undef, .undef, .undef, .undef, .undef, .undef, .undef, .undef, .undef, .undef, .undef, .undef, .undef, .undef, .undef, .undef, .undef, .undef, .undef, .undef, .undef], [.box [.d (.int .i64 c), .d (.sl n 2 (lvF V P0))], .box [.d (.int .i64 (V i)), .d (.int .i64 (P0 i))]]⟩) (fun k => i - k) (fun k => k ≤ i ∧ ∀ j, j < k → V j ≠ V i) 0 ⟨Nat.zero_le _, fun k hk => absurd hk (Nat.not_lt_zero _)⟩ (fun {_} => by kernel_rfl) ?_ (fun i => rfl) @fun ⟨_, _, _, _, _, _, _, _, _, _, _, _, _, _, _, _, _, _, _, _, _, _, _, _, _, _, _, _, _, _, _, _, _, _, _, _, _, _, wpb, wfb⟩ k Bk2 hk hBk2 => ?_
    · ((cbv; try simp only [wf, wfa, exD, exL, exT, exB, exA, leLs, leL_d, leL_undef, leL_nils, leA_nils, deq_refl, deq_int, deq_bool, deq_str, and_true, true_and, AObj.iter.injEq, nc, nc']; try simp (disch := omega) only [w64, w32, wu8]); first | done | rfl | omega | (simp; done) | (simp; omega) | skip)
    (cbv; try simp only [wp, (show ∀ n : Nat, _ = n from fun n => wf.2.2.2.2.2.2.2.2.2.2.2.2.2.1 (Int.ofNat n)), (show _ = (0 : Nat) from wf.2.2.2.2.2.2.2.2.2.2.2.2.2.1 0), wpa, (show ∀ n : Nat, _ = n from fun n => wfa.2.2.2.2.2.2.2.2.2.2.2.2.2.1 (Int.ofNat n)), (show _ = (0 : Nat) from wfa.2.2.2.2.2.2.2.2.2.2.2.2.2.1 0), wpb, (show ∀ n : Nat, _ = n from fun n => wfb.2.2.2.2.2.2.2.2.2.2.2.2.2.1 (Int.ofNat n)), (show _ = (0 : Nat) from wfb.2.2.2.2.2.2.2.2.2.2.2.2.2.1 0), getL, takeL, dropL, TK.isAgg, reduceIte])
    obtain ⟨k1, k2⟩ := hk
    refine ⟨fun e2 => ?_, fun e2 => ?_⟩
    · have e2 : k < i := (by (try simp only [wf, wfa, wfb, nc, nc', Int.toNat_natCast, bsz, ByteArray.size_append, List.length_cons, List.length_nil] at *); (try simp (disch := omega) only [w64, w32, wu8] at *); first | done | omega)
      (refine Later.mk ?_; cbv; try simp only [wp, (show ∀ n : Nat, _ = n from fun n => wf.2.2.2.2.2.2.2.2.2.2.2.2.2.1 (Int.ofNat n)), (show _ = (0 : Nat) from wf.2.2.2.2.2.2.2.2.2.2.2.2.2.1 0), wpa, (show ∀ n : Nat, _ = n from fun n => wfa.2.2.2.2.2.2.2.2.2.2.2.2.2.1 (Int.ofNat n)), (show _ = (0 : Nat) from wfa.2.2.2.2.2.2.2.2.2.2.2.2.2.1 0), wpb, (show ∀ n : Nat, _ = n from fun n => wfb.2.2.2.2.2.2.2.2.2.2.2.2.2.1 (Int.ofNat n)), (show _ = (0 : Nat) from wfb.2.2.2.2.2.2.2.2.2.2.2.2.2.1 0), getL, takeL, dropL, TK.isAgg, reduceIte])
      repeat' first | with_reducible refine And.intro ?_ ?_ | intro c9
      all_goals first
        | exact (by (try simp only [wf, wfa, wfb, nc, nc', Int.toNat_natCast, bsz, ByteArray.size_append, List.length_cons, List.length_nil] at *); (try simp (disch := omega) only [w64, w32, wu8] at *); first | done | omega)
        | trivial
        | ((refine Later.mk ?_; cbv; try simp only [wp, (show ∀ n : Nat, _ = n from fun n => wf.2.2.2.2.2.2.2.2.2.2.2.2.2.1 (Int.ofNat n)), (show _ = (0 : Nat) from wf.2.2.2.2.2.2.2.2.2.2.2.2.2.1 0), wpa, (show ∀ n : Nat, _ = n from fun n => wfa.2.2.2.2.2.2.2.2.2.2.2.2.2.1 (Int.ofNat n)), (show _ = (0 : Nat) from wfa.2.2.2.2.2.2.2.2.2.2.2.2.2.1 0), wpb, (show ∀ n : Nat, _ = n from fun n => wfb.2.2.2.2.2.2.2.2.2.2.2.2.2.1 (Int.ofNat n)), (show _ = (0 : Nat) from wfb.2.2.2.2.2.2.2.2.2.2.2.2.2.1 0), getL, takeL, dropL, TK.isAgg, reduceIte])
           exact hR false _ (notValid e (fun h => h.2.2.2.2 k e2 (by (try simp only [wf, wfa, wfb, nc, nc', Int.toNat_natCast, bsz, ByteArray.size_append, List.length_cons, List.length_nil] at *); (try simp (disch := omega) only [w64, w32, wu8] at *); first | done | omega))))
        | ((refine Later.mk ?_; cbv; try simp only [wp, (show ∀ n : Nat, _ = n from fun n => wf.2.2.2.2.2.2.2.2.2.2.2.2.2.1 (Int.ofNat n)), (show _ = (0 : Nat) from wf.2.2.2.2.2.2.2.2.2.2.2.2.2.1 0), wpa, (show ∀ n : Nat, _ = n from fun n => wfa.2.2.2.2.2.2.2.2.2.2.2.2.2.1 (Int.ofNat n)), (show _ = (0 : Nat) from wfa.2.2.2.2.2.2.2.2.2.2.2.2.2.1 0), wpb, (show ∀ n : Nat, _ = n from fun n => wfb.2.2.2.2.2.2.2.2.2.2.2.2.2.1 (Int.ofNat n)), (show _ = (0 : Nat) from wfb.2.2.2.2.2.2.2.2.2.2.2.2.2.1 0), getL, takeL, dropL, TK.isAgg, reduceIte])
           refine hBk2 (k + 1) _ (by omega) ⟨by omega, fun j hj => ?_⟩ ?_
           · by_cases e3 : j = k
             · subst e3; ((try simp only [wf, wfa, wfb, nc, nc', Int.toNat_natCast, bsz, ByteArray.size_append, List.length_cons, List.length_nil] at *); (try simp (disch := omega) only [w64, w32, wu8] at *)); assumption
             · exact k2 j (by omega)
           · ((cbv; try simp only [wf, wfa, wfb, exD, exL, exT, exB, exA, leLs, leL_d, leL_undef, leL_nils, leA_nils, deq_refl, deq_int, deq_bool, deq_str, and_true, true_and, AObj.iter.injEq, nc, nc']; try simp (disch := omega) only [w64, w32, wu8]); first | done | rfl | omega | (simp; done) | (simp; omega) | skip))
    · obtain rfl : k = i := (by (try simp only [wf, wfa, wfb, nc, nc', Int.toNat_natCast, bsz, ByteArray.size_append, List.length_cons, List.length_nil] at *); (try simp (disch := omega) only [w64, w32, wu8] at *); first | done | omega)
      (refine Later.mk ?_; cbv; try simp only [wp, (show ∀ n : Nat, _ = n from fun n => wf.2.2.2.2.2.2.2.2.2.2.2.2.2.1 (Int.ofNat n)), (show _ = (0 : Nat) from wf.2.2.2.2.2.2.2.2.2.2.2.2.2.1 0), wpa, (show ∀ n : Nat, _ = n from fun n => wfa.2.2.2.2.2.2.2.2.2.2.2.2.2.1 (Int.ofNat n)), (show _ = (0 : Nat) from wfa.2.2.2.2.2.2.2.2.2.2.2.2.2.1 0), wpb, (show ∀ n : Nat, _ = n from fun n => wfb.2.2.2.2.2.2.2.2.2.2.2.2.2.1 (Int.ofNat n)), (show _ = (0 : Nat) from wfb.2.2.2.2.2.2.2.2.2.2.2.2.2.1 0), getL, takeL, dropL, TK.isAgg, reduceIte])
      refine hBk (k + 1) _ (by omega) ⟨by omega, fun j hj => ?_⟩ ?_
      · by_cases e3 : j = k
        · subst e3
          ((try simp only [wf, wfa, wfb, nc, nc', Int.toNat_natCast, bsz, ByteArray.size_append, List.length_cons, List.length_nil] at *); (try simp (disch := omega) only [w64, w32, wu8] at *))
          exact ⟨by omega, by omega, by omega, by omega, k2⟩
        · exact i2 j (by omega)
      · ((cbv; try simp only [wf, wfa, wfb, exD, exL, exT, exB, exA, leLs, leL_d, leL_undef, leL_nils, leA_nils, deq_refl, deq_int, deq_bool, deq_str, and_true, true_and, AObj.iter.injEq, nc, nc']; try simp (disch := omega) only [w64, w32, wu8]); first | done | rfl | omega | (simp; done) | (simp; omega) | skip)
  · obtain rfl : i = n := (by (try simp only [wf, wfa, nc, nc', Int.toNat_natCast, bsz, ByteArray.size_append, List.length_cons, List.length_nil] at *); (try simp (disch := omega) only [w64, w32, wu8] at *); first | done | omega)
    (refine Later.mk ?_; cbv; try simp only [wp, (show ∀ n : Nat, _ = n from fun n => wf.2.2.2.2.2.2.2.2.2.2.2.2.2.1 (Int.ofNat n)), (show _ = (0 : Nat) from wf.2.2.2.2.2.2.2.2.2.2.2.2.2.1 0), wpa, (show ∀ n : Nat, _ = n from fun n => wfa.2.2.2.2.2.2.2.2.2.2.2.2.2.1 (Int.ofNat n)), (show _ = (0 : Nat) from wfa.2.2.2.2.2.2.2.2.2.2.2.2.2.1 0), getL, takeL, dropL, TK.isAgg, reduceIte])
    exact hR _ _ (by ((try simp only [wf, wfa, nc, nc'] at *); (try simp (disch := omega) only [w64, w32, wu8] at *)); simp [ValidP]; exact ⟨by omega, by omega, by omega, i2⟩)
theorem distinct {c : Int} {n : Nat} {V P0 : Nat → Int} (h : ValidP c n V P0) {j k : Nat} (hj : j < n) (hk : k < n) (e : V j = V k) : j = k := by
  rcases Nat.lt_trichotomy j k with h1 | h1 | h1
  · exact absurd e ((h.2.2.2 k hk).2.2.2.2 j h1)
  · exact h1
  · exact absurd e.symm ((h.2.2.2 j hj).2.2.2.2 k h1)
theorem iffF {X : Prop} (h : ¬ X) : false = true ↔ X := ⟨fun h => (by cases h), fun h2 => absurd h2 h⟩
theorem iffT {X : Prop} (h : X) : true = true ↔ X := ⟨fun _ => h, fun _ => rfl⟩
theorem _root_.Iff.dich {b : Bool} {X : Prop} (h : b = true ↔ X) : (b = true ∧ X) ∨ (b = false ∧ ¬ X) := by
  cases b
  · exact .inr ⟨rfl, fun x => (by simpa using h.2 x)⟩
  · exact .inl ⟨rfl, h.1 rfl⟩
end Go.VM

namespace Go.VM
open Go.Proofs Go
set_option maxRecDepth 100000
set_option linter.unusedVariables false
set_option linter.unusedSimpArgs false
theorem InP_up {V P0 V' P' : Nat → Int} {k i : Nat} (h : InP V P0 k V' P' i) : InP V P0 (k + 1) V' P' i := by
  obtain ⟨j, h1, h2⟩ := h
  exact ⟨j, by omega, h2⟩
theorem InP_dn {V P0 V' P' : Nat → Int} {k i : Nat} (h : InP V P0 (k + 1) V' P' i) (hn : V' k = V i → P0 i ≤ P' k → False) : InP V P0 k V' P' i := by
  obtain ⟨j, h1, h2, h3⟩ := h
  by_cases e : j = k
  · subst e; exact (hn h2 h3).elim
  · exact ⟨j, by omega, h2, h3⟩
end Go.VM

namespace Go.VM
open Go.Proofs Go
set_option maxRecDepth 100000
set_option linter.unusedVariables false
set_option linter.unusedSimpArgs false
theorem isNaN (x : Int) : VFun (P ()) 173 [.d (.int .i64 x)] (fun r => r = .d (.bool false)) := by
  refine vfunO (Tf := @T) @tabOk [] 400 Tryz.func173 rfl (fun {_} => by kernel_rfl) rfl (Nat.le_of_ble_eq_true rfl) @fun ⟨_, _, _, _, _, _, _, _, _, _, _, _, _, _, _, _, _, _, _, _, _, _, _, _, _, _, _, _, _, _, _, _, _, _, _, _, _, _, wp, wf⟩ R hR => ?_
  cbv
  try simp only [wp, (show ∀ n : Nat, _ = n from fun n => wf.2.2.2.2.2.2.2.2.2.2.2.2.2.1 (Int.ofNat n)), getL, takeL, dropL, TK.isAgg, reduceIte]
  repeat' first | with_reducible refine And.intro ?_ ?_ | intro c9
  all_goals first | exact hR _ _ _ (.d _) rfl | (exact absurd rfl c9) | trivial | skip
theorem Compare (x y : Int) : VFun (P ()) 135 [.d (.int .i64 x), .d (.int .i64 y)] (fun r => ∃ z : Int, z = (if x < y then -1 else if y < x then 1 else 0) ∧ r = .d (.int .i64 z)) := by
  refine vfunO (Tf := @T) @tabOk [] 400 Tryz.func135 rfl (fun {_} => by kernel_rfl) rfl (Nat.le_of_ble_eq_true rfl) @fun ⟨_, _, _, _, _, _, _, _, _, _, _, _, _, _, _, _, _, _, _, _, _, _, _, _, _, _, _, _, _, _, _, _, _, _, _, _, _, _, wp, wf⟩ R hR => ?_
  cbv
  try simp only [wp, (show ∀ n : Nat, _ = n from fun n => wf.2.2.2.2.2.2.2.2.2.2.2.2.2.1 (Int.ofNat n)), getL, takeL, dropL, TK.isAgg, reduceIte]
  replace hR := fun b H h => hR _ H _ (.d (.int .i64 b)) ⟨b, h, rfl⟩
  refine (isNaN x).call ?_
  rintro _ rfl
  (cbv; try simp only [wp, (show ∀ n : Nat, _ = n from fun n => wf.2.2.2.2.2.2.2.2.2.2.2.2.2.1 (Int.ofNat n)), (show _ = (0 : Nat) from wf.2.2.2.2.2.2.2.2.2.2.2.2.2.1 0), getL, takeL, dropL, TK.isAgg, reduceIte])
  refine (isNaN y).call ?_
  rintro _ rfl
  (cbv; try simp only [wp, (show ∀ n : Nat, _ = n from fun n => wf.2.2.2.2.2.2.2.2.2.2.2.2.2.1 (Int.ofNat n)), (show _ = (0 : Nat) from wf.2.2.2.2.2.2.2.2.2.2.2.2.2.1 0), getL, takeL, dropL, TK.isAgg, reduceIte])
  repeat (refine Later.mk ?_; cbv; try simp only [wp, (show ∀ n : Nat, _ = n from fun n => wf.2.2.2.2.2.2.2.2.2.2.2.2.2.1 (Int.ofNat n)), (show _ = (0 : Nat) from wf.2.2.2.2.2.2.2.2.2.2.2.2.2.1 0), getL, takeL, dropL, TK.isAgg, reduceIte])
  repeat' first | with_reducible refine And.intro ?_ ?_ | intro c9
  all_goals repeat (refine Later.mk ?_; cbv; try simp only [wp, (show ∀ n : Nat, _ = n from fun n => wf.2.2.2.2.2.2.2.2.2.2.2.2.2.1 (Int.ofNat n)), (show _ = (0 : Nat) from wf.2.2.2.2.2.2.2.2.2.2.2.2.2.1 0), getL, takeL, dropL, TK.isAgg, reduceIte])
  all_goals
    repeat' first | with_reducible refine And.intro ?_ ?_ | intro c9
    all_goals repeat (refine Later.mk ?_; cbv; try simp only [wp, (show ∀ n : Nat, _ = n from fun n => wf.2.2.2.2.2.2.2.2.2.2.2.2.2.1 (Int.ofNat n)), (show _ = (0 : Nat) from wf.2.2.2.2.2.2.2.2.2.2.2.2.2.1 0), getL, takeL, dropL, TK.isAgg, reduceIte])
    all_goals first
      | (refine hR _ _ ?_; (repeat' split) <;> omega)
      | skip
theorem sorted1 (a b a' b' : Int) : VFun (P ()) 134 [.agg [.d (.int .i64 a), .d (.int .i64 b)], .agg [.d (.int .i64 a'), .d (.int .i64 b')]] (fun r => ∃ z : Int, z = (if a < a' then -1 else if a' < a then 1 else 0) ∧ r = .d (.int .i64 z)) := by
  refine vfunO (Tf := @T) @tabOk [] 400 Tryz.func134 rfl (fun {_} => by kernel_rfl) rfl (Nat.le_of_ble_eq_true rfl) @fun ⟨_, _, _, _, _, _, _, _, _, _, _, _, _, _, _, _, _, _, _, _, _, _, _, _, _, _, _, _, _, _, _, _, _, _, _, _, _, _, wp, wf⟩ R hR => ?_
  cbv
  try simp only [wp, (show ∀ n : Nat, _ = n from fun n => wf.2.2.2.2.2.2.2.2.2.2.2.2.2.1 (Int.ofNat n)), getL, takeL, dropL, TK.isAgg, reduceIte]
  refine (Compare a a').call ?_
  rintro _ ⟨z, hz, rfl⟩
  (cbv; try simp only [wp, (show ∀ n : Nat, _ = n from fun n => wf.2.2.2.2.2.2.2.2.2.2.2.2.2.1 (Int.ofNat n)), (show _ = (0 : Nat) from wf.2.2.2.2.2.2.2.2.2.2.2.2.2.1 0), getL, takeL, dropL, TK.isAgg, reduceIte])
  exact hR _ _ _ (.d _) ⟨z, hz, rfl⟩
theorem Clone1 (m : Nat) (g : Nat → Nat → D) (hm : m < 2 ^ 30) : VCalls (P ()) 132 [.d (.sl m 2 g)] [] (fun r H' => (m = 0 ∧ r = .nils ∧ H' = []) ∨ ∃ n' g', n' = m ∧ (∀ i j, i < m → g' i j = g i j) ∧ r = .ref 0 0 n' 2 ∧ H' = [.arr n' 2 g' 0]) := by
  refine VCalls_of_W (Tf := @T) @tabOk Tryz.func132 rfl (Nat.le_of_ble_eq_true rfl) @fun ⟨_, _, _, _, _, _, _, _, _, _, _, _, _, _, _, _, _, _, _, _, _, _, _, _, _, _, _, _, _, _, _, _, _, _, _, _, _, _, wp, wf⟩ nH R hnH hR => ?_
  subst hnH
  cbv
  try simp only [wp, (show ∀ n : Nat, _ = n from fun n => wf.2.2.2.2.2.2.2.2.2.2.2.2.2.1 (Int.ofNat n)), getL, takeL, dropL, TK.isAgg, reduceIte]
  repeat' first | with_reducible refine And.intro ?_ ?_ | intro c9
  all_goals first
    | exact (by (try simp only [wf, nc, nc', Int.toNat_natCast, bsz, ByteArray.size_append, List.length_cons, List.length_nil] at *); (try simp (disch := omega) only [w64, w32, wu8] at *); first | done | omega)
    | trivial
    | exact hR _ _ (.inl ⟨(by (try simp only [wf, nc, nc', Int.toNat_natCast, bsz, ByteArray.size_append, List.length_cons, List.length_nil] at *); (try simp (disch := omega) only [w64, w32, wu8] at *); first | done | omega), rfl, rfl⟩)
    | (refine hR _ _ (.inr ⟨_, _, ?_, ?_, rfl, rfl⟩)
       · ((try simp only [wf, nc, nc', Int.toNat_natCast, bsz, ByteArray.size_append, List.length_cons, List.length_nil] at *); (try simp (disch := omega) only [w64, w32, wu8] at *))
         omega
       · intro i j hi
         ((try simp only [wf, nc, nc', Int.toNat_natCast, bsz, ByteArray.size_append, List.length_cons, List.length_nil] at *); (try simp (disch := omega) only [w64, w32, wu8] at *))
         simp [appF])
theorem Clone (m : Nat) (g : Nat → Nat → D) (hm : m < 2 ^ 30) : VCalls (P ()) 132 [.d (.sl m 2 g)] [] (fun r H' => (m = 0 ∧ r = .nils ∧ H' = []) ∨ (r = .ref 0 0 m 2 ∧ H' = [.arr m 2 g 0])) :=
  (Clone1 m g hm).less fun r H' h => by
    rcases h with ⟨rfl, rfl, rfl⟩ | ⟨n', g', rfl, hg, rfl, rfl⟩
    · exact ⟨[], trivial, Nat.le_refl _, rfl, rfl, .inl ⟨rfl, rfl, rfl⟩⟩
    · exact ⟨[.arr n' 2 g 0], ⟨⟨g', 0, rfl, Nat.le_refl _, Nat.zero_le _, fun i j hi _ => .of_eq (hg i j hi)⟩, trivial⟩, Nat.zero_le _, rfl, rfl, .inr ⟨rfl, rfl⟩⟩
theorem swp_upd (V P0 : Nat → Int) {j k : Nat} (hj : 0 < j) (hk : k = j - 1) (x y : Nat) (hy : y < 2) :
    updF (updF (updF (updF (lvF V P0) j 0 (.int .i64 (V k))) j 1 (.int .i64 (P0 k))) k 0 (.int .i64 (V j))) k 1 (.int .i64 (P0 j)) x y = lvF (swp V j) (swp P0 j) x y := by
  subst hk
  have hne : j ≠ j - 1 := by omega
  match y, hy with
  | 0, _ =>
    simp only [updF, lvF, swp]
    by_cases h1 : x = j - 1
    · subst h1; simp [Ne.symm hne]
    · by_cases h2 : x = j
      · subst h2; simp [hne]
      · simp [h1, h2]
  | 1, _ =>
    simp only [updF, lvF, swp]
    by_cases h1 : x = j - 1
    · subst h1; simp [Ne.symm hne]
    · by_cases h2 : x = j
      · subst h2; simp [hne]
      · simp [h1, h2]
structure Sy where
  i : Nat
  V : Nat → Int
  P : Nat → Int
theorem insSort (n : Nat) (V P0 : Nat → Int) (hn : n ≤ 8) : VCalls (P ()) 193 [.ref 0 0 n 2, .d (.int .i64 0), .d (.int .i64 n), .clo 134 [] []] [.arr n 2 (lvF V P0) 0]
    (fun r H => r = .tup [] ∧ ∃ V' P', (lst V' P' n).Perm (lst V P0 n) ∧ upTo V' n ∧ H = [.arr n 2 (lvF V' P') 0]) := by
  refine VCalls_of_Wo (Tf := @T) @tabOk [(4, upF 0 17), (6, upF 0 18)] 400 Tryz.func193 rfl (fun {_} => by kernel_rfl) (Nat.le_of_ble_eq_true rfl) @fun ⟨_, _, _, _, _, _, _, _, _, _, _, _, _, _, _, _, _, _, _, _, _, _, _, _, _, _, _, _, _, _, _, _, _, _, _, _, _, _, wp, wf⟩ nH R hnH hR => ?_
  subst hnH
  cbv
  try simp only [wp, (show ∀ n : Nat, _ = n from fun n => wf.2.2.2.2.2.2.2.2.2.2.2.2.2.1 (Int.ofNat n)), getL, takeL, dropL, TK.isAgg, reduceIte]
  refine loopO (Tf := @T) @tabOk [(4, upF 0 17), (6, upF 0 18)] 400 (fun y : Sy => ⟨[.ref 0 0 n 2, .d (.int .i64 0), .d (.int .i64 n), .clo 134 [] [], .undef, .undef, .undef, .undef, .d (.int .i64 y.i), .undef, .undef, .undef, .undef, .undef, .undef, .undef, .undef, .undef, .undef, .undef, .undef, .undef, .undef, .undef, .undef, .undef, .undef, .undef, .undef, .undef, .undef, .undef, .undef, .undef, .undef, .undef, .undef, .undef, .undef, .undef, .undef, .undef, .undef, .undef, .undef, .undef, .undef, .undef, .undef, .undef, .undef, .undef, .undef], [.arr n 2 (lvF y.V y.P) 0]⟩) (fun y => n - y.i) (fun y => 1 ≤ y.i ∧ (y.i ≤ n ∨ y.i = 1) ∧ (lst y.V y.P n).Perm (lst V P0 n) ∧ upTo y.V y.i) ⟨1, V, P0⟩ ⟨Nat.le_refl _, .inr rfl, .refl _, fun k l h1 h2 => absurd h2 (by dsimp only; omega)⟩ (fun {_} => by kernel_rfl) ?_ (fun i => rfl) @fun ⟨_, _, _, _, _, _, _, _, _, _, _, _, _, _, _, _, _, _, _, _, _, _, _, _, _, _, _, _, _, _, _, _, _, _, _, _, _, _, wpa, wfa⟩ ⟨i, V1, P1⟩ Bk hi hBk => ?_
  · ((cbv; try simp only [wf, exD, exL, exT, exB, exA, leLs, leL_d, leL_undef, leL_nils, leA_nils, deq_refl, deq_int, deq_bool, deq_str, and_true, true_and, AObj.iter.injEq, nc, nc']; try simp (disch := omega) only [w64, w32, wu8]); first | done | rfl | omega | (simp; done) | (simp; omega) | skip)
  (cbv; try simp only [wp, (show ∀ n : Nat, _ = n from fun n => wf.2.2.2.2.2.2.2.2.2.2.2.2.2.1 (Int.ofNat n)), (show _ = (0 : Nat) from wf.2.2.2.2.2.2.2.2.2.2.2.2.2.1 0), wpa, (show ∀ n : Nat, _ = n from fun n => wfa.2.2.2.2.2.2.2.2.2.2.2.2.2.1 (Int.ofNat n)), (show _ = (0 : Nat) from wfa.2.2.2.2.2.2.2.2.2.2.2.2.2.1 0), getL, takeL, dropL, TK.isAgg, reduceIte])
  obtain ⟨i1, i2, i3, i4⟩ := hi
  dsimp only at i1 i2 i3 i4
  refine ⟨fun e => ?_, fun e => ?_⟩
  · have e : i < n := (by (try simp only [wf, wfa, nc, nc', Int.toNat_natCast, bsz, ByteArray.size_append, List.length_cons, List.length_nil] at *); (try simp (disch := omega) only [w64, w32, wu8] at *); first | done | omega)
    (refine Later.mk ?_; cbv; try simp only [wp, (show ∀ n : Nat, _ = n from fun n => wf.2.2.2.2.2.2.2.2.2.2.2.2.2.1 (Int.ofNat n)), (show _ = (0 : Nat) from wf.2.2.2.2.2.2.2.2.2.2.2.2.2.1 0), wpa, (show ∀ n : Nat, _ = n from fun n => wfa.2.2.2.2.2.2.2.2.2.2.2.2.2.1 (Int.ofNat n)), (show _ = (0 : Nat) from wfa.2.2.2.2.2.2.2.2.2.2.2.2.2.1 0), getL, takeL, dropL, TK.isAgg, reduceIte])
    refine loopO (Tf := @T) @tabOk [(4, upF 0 17), (6, upF 0 18)] 400 (fun y : Sy => ⟨[.ref 0 0 n 2, .d (.int .i64 0), .d (.int .i64 n), .clo 134 [] [], .undef, .undef, .undef, .undef, .d (.int .i64 i), .d (.int .i64 y.i), .undef, .undef, .undef, .undef, .undef, .undef, .undef, .undef, .undef, .undef, .undef, .undef, .undef, .undef, .undef, .undef, .undef, .undef, .undef, .undef, .undef, .undef, .undef, .undef, .undef, .undef, .undef, .undef, .undef, .undef, .undef, .undef, .undef, .undef, .undef, .undef, .undef, .undef, .undef, .undef, .undef, .undef, .undef], [.arr n 2 (lvF y.V y.P) 0]⟩) (fun y => y.i) (fun y => (lst y.V y.P n).Perm (lst V P0 n) ∧ upBut y.V i y.i) ⟨i, V1, P1⟩ ⟨i3, upBut_start i4⟩ (fun {_} => by kernel_rfl) ?_ (fun i => rfl) @fun ⟨_, _, _, _, _, _, _, _, _, _, _, _, _, _, _, _, _, _, _, _, _, _, _, _, _, _, _, _, _, _, _, _, _, _, _, _, _, _, wpb, wfb⟩ ⟨j, V2, P2⟩ Bk2 hj hBk2 => ?_
    · ((cbv; try simp only [wf, wfa, exD, exL, exT, exB, exA, leLs, leL_d, leL_undef, leL_nils, leA_nils, deq_refl, deq_int, deq_bool, deq_str, and_true, true_and, AObj.iter.injEq, nc, nc']; try simp (disch := omega) only [w64, w32, wu8]); first | done | rfl | omega | (simp; done) | (simp; omega) | skip)
    obtain ⟨j1, j2⟩ := hj
    dsimp only at j1 j2
    have j3 := j2.1
    (cbv; try simp only [wp, (show ∀ n : Nat, _ = n from fun n => wf.2.2.2.2.2.2.2.2.2.2.2.2.2.1 (Int.ofNat n)), (show _ = (0 : Nat) from wf.2.2.2.2.2.2.2.2.2.2.2.2.2.1 0), wpa, (show ∀ n : Nat, _ = n from fun n => wfa.2.2.2.2.2.2.2.2.2.2.2.2.2.1 (Int.ofNat n)), (show _ = (0 : Nat) from wfa.2.2.2.2.2.2.2.2.2.2.2.2.2.1 0), wpb, (show ∀ n : Nat, _ = n from fun n => wfb.2.2.2.2.2.2.2.2.2.2.2.2.2.1 (Int.ofNat n)), (show _ = (0 : Nat) from wfb.2.2.2.2.2.2.2.2.2.2.2.2.2.1 0), getL, takeL, dropL, TK.isAgg, reduceIte])
    repeat' first | with_reducible refine And.intro ?_ ?_ | intro c9
    all_goals first
      | exact (by (try simp only [wf, wfa, wfb, nc, nc', Int.toNat_natCast, bsz, ByteArray.size_append, List.length_cons, List.length_nil] at *); (try simp (disch := omega) only [w64, w32, wu8] at *); first | done | omega)
      | trivial
      | skip
    · refine (sorted1 _ _ _ _).call ?_
      rintro _ ⟨z, hz, rfl⟩
      have hj0 : 0 < j := (by (try simp only [wf, wfa, wfb, nc, nc', Int.toNat_natCast, bsz, ByteArray.size_append, List.length_cons, List.length_nil] at *); (try simp (disch := omega) only [w64, w32, wu8] at *); first | done | omega)
      have hz : z < 0 ↔ V2 j < V2 (j - 1) := by
        ((try simp only [wf, wfa, wfb, nc, nc', Int.toNat_natCast, bsz, ByteArray.size_append, List.length_cons, List.length_nil] at *); (try simp (disch := omega) only [w64, w32, wu8] at *))
        rw [hz, show ((j : Int) - 1).toNat = j - 1 by omega]
        split
        · simp; omega
        · split <;> simp <;> omega
      (cbv; try simp only [wp, (show ∀ n : Nat, _ = n from fun n => wf.2.2.2.2.2.2.2.2.2.2.2.2.2.1 (Int.ofNat n)), (show _ = (0 : Nat) from wf.2.2.2.2.2.2.2.2.2.2.2.2.2.1 0), wpa, (show ∀ n : Nat, _ = n from fun n => wfa.2.2.2.2.2.2.2.2.2.2.2.2.2.1 (Int.ofNat n)), (show _ = (0 : Nat) from wfa.2.2.2.2.2.2.2.2.2.2.2.2.2.1 0), wpb, (show ∀ n : Nat, _ = n from fun n => wfb.2.2.2.2.2.2.2.2.2.2.2.2.2.1 (Int.ofNat n)), (show _ = (0 : Nat) from wfb.2.2.2.2.2.2.2.2.2.2.2.2.2.1 0), getL, takeL, dropL, TK.isAgg, reduceIte])
      refine ⟨fun e2 => ?_, fun e2 => ?_⟩
      · have e3 := hz.1 e2
        clear hz
        (refine Later.mk ?_; cbv; try simp only [wp, (show ∀ n : Nat, _ = n from fun n => wf.2.2.2.2.2.2.2.2.2.2.2.2.2.1 (Int.ofNat n)), (show _ = (0 : Nat) from wf.2.2.2.2.2.2.2.2.2.2.2.2.2.1 0), wpa, (show ∀ n : Nat, _ = n from fun n => wfa.2.2.2.2.2.2.2.2.2.2.2.2.2.1 (Int.ofNat n)), (show _ = (0 : Nat) from wfa.2.2.2.2.2.2.2.2.2.2.2.2.2.1 0), wpb, (show ∀ n : Nat, _ = n from fun n => wfb.2.2.2.2.2.2.2.2.2.2.2.2.2.1 (Int.ofNat n)), (show _ = (0 : Nat) from wfb.2.2.2.2.2.2.2.2.2.2.2.2.2.1 0), getL, takeL, dropL, TK.isAgg, reduceIte])
        repeat' first | with_reducible refine And.intro ?_ ?_ | intro c9
        all_goals first
          | exact (by (try simp only [wf, wfa, wfb, nc, nc', Int.toNat_natCast, bsz, ByteArray.size_append, List.length_cons, List.length_nil] at *); (try simp (disch := omega) only [w64, w32, wu8] at *); first | done | omega)
          | trivial
          | skip
        obtain ⟨k, hk⟩ : ∃ k, k = j - 1 := ⟨_, rfl⟩
        refine hBk2 ⟨k, swp V2 j, swp P2 j⟩ _ (by dsimp only; omega) ⟨(lst_swp V2 P2 hj0 (by omega)).trans j1, by dsimp only; rw [hk]; exact upBut_step j2 hj0 e3⟩ ?_
        (cbv; try simp only [wf, wfa, wfb, exD, exL, exT, exB, exA, leLs, leL_d, leL_undef, leL_nils, leA_nils, deq_refl, deq_int, deq_bool, deq_str, and_true, true_and, AObj.iter.injEq, nc, nc']; try simp (disch := omega) only [w64, w32, wu8])
        rw [show ((j : Int) - 1).toNat = k by omega]
        refine ⟨by omega, Nat.le_refl _, Nat.zero_le _, fun x y h1 h2 => .of_eq ?_⟩
        exact swp_upd V2 P2 hj0 hk x y h2
      · have e3 := mt hz.2 (by omega)
        clear hz
        (refine Later.mk ?_; cbv; try simp only [wp, (show ∀ n : Nat, _ = n from fun n => wf.2.2.2.2.2.2.2.2.2.2.2.2.2.1 (Int.ofNat n)), (show _ = (0 : Nat) from wf.2.2.2.2.2.2.2.2.2.2.2.2.2.1 0), wpa, (show ∀ n : Nat, _ = n from fun n => wfa.2.2.2.2.2.2.2.2.2.2.2.2.2.1 (Int.ofNat n)), (show _ = (0 : Nat) from wfa.2.2.2.2.2.2.2.2.2.2.2.2.2.1 0), wpb, (show ∀ n : Nat, _ = n from fun n => wfb.2.2.2.2.2.2.2.2.2.2.2.2.2.1 (Int.ofNat n)), (show _ = (0 : Nat) from wfb.2.2.2.2.2.2.2.2.2.2.2.2.2.1 0), getL, takeL, dropL, TK.isAgg, reduceIte])
        refine hBk ⟨i + 1, V2, P2⟩ _ (by dsimp only; omega) ⟨by dsimp only; omega, .inl (by dsimp only; omega), j1, upBut_end j2 (.inr (by dsimp only; omega))⟩ ?_
        ((cbv; try simp only [wf, wfa, wfb, exD, exL, exT, exB, exA, leLs, leL_d, leL_undef, leL_nils, leA_nils, deq_refl, deq_int, deq_bool, deq_str, and_true, true_and, AObj.iter.injEq, nc, nc']; try simp (disch := omega) only [w64, w32, wu8]); first | done | rfl | omega | (simp; done) | (simp; omega) | skip)
    · have e2 : j = 0 := (by (try simp only [wf, wfa, wfb, nc, nc', Int.toNat_natCast, bsz, ByteArray.size_append, List.length_cons, List.length_nil] at *); (try simp (disch := omega) only [w64, w32, wu8] at *); first | done | omega)
      subst e2
      (refine Later.mk ?_; cbv; try simp only [wp, (show ∀ n : Nat, _ = n from fun n => wf.2.2.2.2.2.2.2.2.2.2.2.2.2.1 (Int.ofNat n)), (show _ = (0 : Nat) from wf.2.2.2.2.2.2.2.2.2.2.2.2.2.1 0), wpa, (show ∀ n : Nat, _ = n from fun n => wfa.2.2.2.2.2.2.2.2.2.2.2.2.2.1 (Int.ofNat n)), (show _ = (0 : Nat) from wfa.2.2.2.2.2.2.2.2.2.2.2.2.2.1 0), wpb, (show ∀ n : Nat, _ = n from fun n => wfb.2.2.2.2.2.2.2.2.2.2.2.2.2.1 (Int.ofNat n)), (show _ = (0 : Nat) from wfb.2.2.2.2.2.2.2.2.2.2.2.2.2.1 0), getL, takeL, dropL, TK.isAgg, reduceIte])
      refine hBk ⟨i + 1, V2, P2⟩ _ (by dsimp only; omega) ⟨by dsimp only; omega, .inl (by dsimp only; omega), j1, upBut_end j2 (.inl rfl)⟩ ?_
      ((cbv; try simp only [wf, wfa, wfb, exD, exL, exT, exB, exA, leLs, leL_d, leL_undef, leL_nils, leA_nils, deq_refl, deq_int, deq_bool, deq_str, and_true, true_and, AObj.iter.injEq, nc, nc']; try simp (disch := omega) only [w64, w32, wu8]); first | done | rfl | omega | (simp; done) | (simp; omega) | skip)
  · have e : n ≤ i := (by (try simp only [wf, wfa, nc, nc', Int.toNat_natCast, bsz, ByteArray.size_append, List.length_cons, List.length_nil] at *); (try simp (disch := omega) only [w64, w32, wu8] at *); first | done | omega)
    (refine Later.mk ?_; cbv; try simp only [wp, (show ∀ n : Nat, _ = n from fun n => wf.2.2.2.2.2.2.2.2.2.2.2.2.2.1 (Int.ofNat n)), (show _ = (0 : Nat) from wf.2.2.2.2.2.2.2.2.2.2.2.2.2.1 0), wpa, (show ∀ n : Nat, _ = n from fun n => wfa.2.2.2.2.2.2.2.2.2.2.2.2.2.1 (Int.ofNat n)), (show _ = (0 : Nat) from wfa.2.2.2.2.2.2.2.2.2.2.2.2.2.1 0), getL, takeL, dropL, TK.isAgg, reduceIte])
    exact hR _ _ ⟨rfl, V1, P1, i3, fun k l h1 h2 => i4 k l h1 (by omega), rfl⟩
end Go.VM
