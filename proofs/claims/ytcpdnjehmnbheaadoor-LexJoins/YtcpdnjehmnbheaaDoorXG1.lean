/- Part of the proof: LexT, X1, X2, X3, X4, X5, X6, X7, Lay66, X8, X9, X10. -/
import Derived.Shelf.Strings.Fields
import Derived.Test.YtcpdnjehmnbheaaDoorProg
import Derived.Lib.Strings
import Derived.Lib.Slices
import Derived.Lib.Walk
import Derived.Lib.Bytealg
import Derived.Test.YtcpdnjehmnbheaaDoorVG2
/- The seat's types, as the logic of abstract states reads them. -/
set_option maxRecDepth 100000
namespace Go.VM
def tbl : Tables where
  n := 127
  m := 107
  bare := [0, 1, 49, 67, 74, 78, 82, 83, 84, 85, 86, 87, 88, 89, 90, 91, 92, 93, 94, 95, 96, 97, 98, 99, 100, 101, 102, 103, 104, 105]
  eqs := [(25, [.int, .int]), (32, [.int, .str, .int])]
  bld := 53
  tree := (.node (.node (.node (.node (.node (.node (.node .nil
 (some ⟨.func, 1, 8, [.d .nilf]⟩) .nil)
 (some ⟨(.struct [(0, 3), (1, 9), (2, 3)]), 3, 32, [.d (.int .i64 (0)), .d (.str ⟨#[]⟩), .d (.int .i64 (0))]⟩) (.node .nil
 (some ⟨(.struct [(0, 3), (1, 3)]), 2, 16, [.d (.int .i64 (0)), .d (.int .i64 (0))]⟩) .nil))
 (some ⟨(.pointer 116), 1, 8, [.d .nilp]⟩) (.node (.node .nil
 (some ⟨.func, 1, 8, [.d .nilf]⟩) .nil)
 (some ⟨.func, 1, 8, [.d .nilf]⟩) (.node .nil
 (some ⟨(.struct [(0, 97), (1, 97), (2, 97)]), 3, 12, [.d (.int .u32 (0)), .d (.int .u32 (0)), .d (.int .u32 (0))]⟩) .nil)))
 (some ⟨(.struct [(0, 2), (1, 3), (2, 4), (3, 6)]), 4, 24, [.d (.int .i64 (0)), .d (.int .i64 (0)), .d (.bool false), .d (.int .u8 (0))]⟩) (.node (.node (.node .nil
 (some ⟨.func, 1, 8, [.d .nilf]⟩) .nil)
 (some ⟨.func, 1, 8, [.d .nilf]⟩) (.node .nil
 (some ⟨(.slice 111), 1, 24, [.nils]⟩) .nil))
 (some ⟨(.int .i64), 1, 8, [.d (.int .i64 (0))]⟩) (.node (.node .nil
 (some ⟨.func, 1, 8, [.d .nilf]⟩) .nil)
 none (.node .nil
 (some ⟨(.struct [(0, 117)]), 0, 0, []⟩) .nil))))
 (some ⟨(.int .i64), 1, 8, [.d (.int .i64 (0))]⟩) (.node (.node (.node (.node .nil
 (some ⟨(.struct [(0, 32), (3, 4), (4, 3)]), 5, 48, [.d (.int .i64 (0)), .d (.str ⟨#[]⟩), .d (.int .i64 (0)), .d (.bool false), .d (.int .i64 (0))]⟩) .nil)
 none (.node .nil
 (some ⟨(.pointer 105), 1, 8, [.d .nilp]⟩) .nil))
 (some ⟨(.struct [(0, 17)]), 1, 8, [.d .nilp]⟩) (.node (.node .nil
 (some ⟨.func, 1, 8, [.d .nilf]⟩) .nil)
 (some ⟨(.slice 5), 1, 24, [.nils]⟩) (.node .nil
 (some ⟨(.struct [(0, 17), (1, 17), (2, 17), (3, 9)]), 4, 40, [.d .nilp, .d .nilp, .d .nilp, .d (.str ⟨#[]⟩)]⟩) .nil)))
 (some ⟨.string, 1, 16, [.d (.str ⟨#[]⟩)]⟩) (.node (.node (.node .nil
 (some ⟨(.pointer 5), 1, 8, [.d .nilp]⟩) .nil)
 (some ⟨(.slice 54), 1, 24, [.nils]⟩) (.node .nil
 (some ⟨(.struct [(0, 106), (1, 106), (2, 106)]), 3, 6, [.d (.int .u16 (0)), .d (.int .u16 (0)), .d (.int .u16 (0))]⟩) .nil))
 (some ⟨.func, 1, 8, [.d .nilf]⟩) (.node (.node .nil
 (some ⟨.func, 1, 8, [.d .nilf]⟩) .nil)
 (some ⟨.func, 1, 8, [.d .nilf]⟩) (.node .nil
 (some ⟨(.int .i32), 1, 4, [.d (.int .i32 (0))]⟩) .nil)))))
 (some ⟨.func, 1, 8, [.d .nilf]⟩) (.node (.node (.node (.node (.node .nil
 (some ⟨.func, 1, 8, [.d .nilf]⟩) .nil)
 (some ⟨.func, 1, 8, [.d .nilf]⟩) (.node .nil
 (some ⟨(.int .u32), 1, 4, [.d (.int .u32 (0))]⟩) .nil))
 (some ⟨(.pointer 126), 1, 8, [.d .nilp]⟩) (.node (.node .nil
 (some ⟨.func, 1, 8, [.d .nilf]⟩) .nil)
 (some ⟨.func, 1, 8, [.d .nilf]⟩) (.node .nil
 (some ⟨(.pointer 108), 1, 8, [.d .nilp]⟩) .nil)))
 (some ⟨.string, 1, 16, [.d (.str ⟨#[]⟩)]⟩) (.node (.node (.node .nil
 (some ⟨.func, 1, 8, [.d .nilf]⟩) .nil)
 (some ⟨.func, 1, 8, [.d .nilf]⟩) (.node .nil
 (some ⟨(.struct [(0, 102), (1, 103), (2, 3)]), 3, 56, [.nils, .nils, .d (.int .i64 (0))]⟩) .nil))
 (some ⟨(.struct [(0, 23), (1, 3)]), 2, 16, [.d (.int .i64 (0)), .d (.int .i64 (0))]⟩) (.node (.node .nil
 (some ⟨.func, 1, 8, [.d .nilf]⟩) .nil)
 none (.node .nil
 (some ⟨(.int .u8), 1, 1, [.d (.int .u8 (0))]⟩) .nil))))
 (some ⟨(.int .u8), 1, 1, [.d (.int .u8 (0))]⟩) (.node (.node (.node (.node .nil
 (some ⟨.func, 1, 8, [.d .nilf]⟩) .nil)
 (some ⟨.func, 1, 8, [.d .nilf]⟩) (.node .nil
 (some ⟨.func, 1, 8, [.d .nilf]⟩) .nil))
 (some ⟨(.int .i32), 1, 4, [.d (.int .i32 (0))]⟩) (.node (.node .nil
 (some ⟨.func, 1, 8, [.d .nilf]⟩) .nil)
 (some ⟨(.struct [(0, 50), (1, 51)]), 2, 32, [.d .nilp, .nils]⟩) (.node .nil
 (some ⟨(.array 0 16), 0, 0, []⟩) .nil)))
 (some ⟨(.struct [(0, 9), (1, 12)]), 2, 24, [.d (.str ⟨#[]⟩), .d (.int .u64 (0))]⟩) (.node (.node (.node .nil
 (some ⟨.func, 1, 8, [.d .nilf]⟩) .nil)
 (some ⟨.func, 1, 8, [.d .nilf]⟩) (.node .nil
 (some ⟨.func, 1, 8, [.d .nilf]⟩) .nil))
 (some ⟨.func, 1, 8, [.d .nilf]⟩) (.node (.node .nil
 (some ⟨(.int .u64), 1, 8, [.d (.int .u64 (0))]⟩) .nil)
 (some ⟨.func, 1, 8, [.d .nilf]⟩) (.node .nil
 (some ⟨(.struct [(0, 12), (1, 12), (2, 97), (3, 120), (4, 5), (5, 5), (6, 121), (7, 122), (8, 75), (9, 123), (10, 124)]), 11, 48, [.d (.int .u64 (0)), .d (.int .u64 (0)), .d (.int .u32 (0)), .d (.int .u8 (0)), .d (.int .u8 (0)), .d (.int .u8 (0)), .d (.int .u8 (0)), .d .nilf, .d .nilp, .d (.int .i32 (0)), .d (.int .i32 (0))]⟩) .nil))))))
 none (.node (.node (.node (.node (.node (.node .nil
 (some ⟨.func, 1, 8, [.d .nilf]⟩) .nil)
 (some ⟨(.struct [(0, 3), (1, 9), (2, 3)]), 3, 32, [.d (.int .i64 (0)), .d (.str ⟨#[]⟩), .d (.int .i64 (0))]⟩) (.node .nil
 (some ⟨(.struct [(0, 3), (1, 3)]), 2, 16, [.d (.int .i64 (0)), .d (.int .i64 (0))]⟩) .nil))
 (some ⟨(.pointer 119), 1, 8, [.d .nilp]⟩) (.node .nil
 none (.node .nil
 (some ⟨.func, 1, 8, [.d .nilf]⟩) .nil)))
 (some ⟨(.struct [(0, 2), (1, 3), (2, 4), (3, 6)]), 4, 24, [.d (.int .i64 (0)), .d (.int .i64 (0)), .d (.bool false), .d (.int .u8 (0))]⟩) (.node (.node (.node .nil
 (some ⟨(.slice 9), 1, 24, [.nils]⟩) .nil)
 none (.node .nil
 (some ⟨(.struct [(0, 102), (1, 103), (2, 3)]), 3, 56, [.nils, .nils, .d (.int .i64 (0))]⟩) .nil))
 (some ⟨(.struct [(0, 23), (1, 3)]), 2, 16, [.d (.int .i64 (0)), .d (.int .i64 (0))]⟩) (.node .nil
 none (.node .nil
 (some ⟨(.int .u8), 1, 1, [.d (.int .u8 (0))]⟩) .nil))))
 (some ⟨.bool, 1, 1, [.d (.bool false)]⟩) (.node (.node (.node .nil
 (some ⟨.func, 1, 8, [.d .nilf]⟩) .nil)
 none (.node (.node .nil
 (some ⟨.func, 1, 8, [.d .nilf]⟩) .nil)
 (some ⟨(.struct [(0, 50), (1, 51)]), 2, 32, [.d .nilp, .nils]⟩) (.node .nil
 (some ⟨(.struct [(0, 17), (1, 17), (2, 17), (3, 9)]), 4, 40, [.d .nilp, .d .nilp, .d .nilp, .d (.str ⟨#[]⟩)]⟩) .nil)))
 (some ⟨(.int .u64), 1, 8, [.d (.int .u64 (0))]⟩) (.node (.node (.node .nil
 (some ⟨.func, 1, 8, [.d .nilf]⟩) .nil)
 none (.node .nil
 (some ⟨(.struct [(0, 106), (1, 106), (2, 106)]), 3, 6, [.d (.int .u16 (0)), .d (.int .u16 (0)), .d (.int .u16 (0))]⟩) .nil))
 (some ⟨.func, 1, 8, [.d .nilf]⟩) (.node (.node .nil
 (some ⟨.func, 1, 8, [.d .nilf]⟩) .nil)
 (some ⟨.func, 1, 8, [.d .nilf]⟩) (.node .nil
 (some ⟨(.int .i32), 1, 4, [.d (.int .i32 (0))]⟩) .nil)))))
 (some ⟨(.int .i64), 1, 8, [.d (.int .i64 (0))]⟩) (.node (.node (.node (.node (.node .nil
 (some ⟨(.struct [(0, 32), (3, 4), (4, 3)]), 5, 48, [.d (.int .i64 (0)), .d (.str ⟨#[]⟩), .d (.int .i64 (0)), .d (.bool false), .d (.int .i64 (0))]⟩) .nil)
 (some ⟨.func, 1, 8, [.d .nilf]⟩) (.node .nil
 (some ⟨.func, 1, 8, [.d .nilf]⟩) .nil))
 (some ⟨(.struct [(0, 17)]), 1, 8, [.d .nilp]⟩) (.node (.node .nil
 (some ⟨.func, 1, 8, [.d .nilf]⟩) .nil)
 (some ⟨(.pointer 53), 1, 8, [.d .nilp]⟩) (.node .nil
 (some ⟨(.pointer 111), 1, 8, [.d .nilp]⟩) .nil)))
 (some ⟨.string, 1, 16, [.d (.str ⟨#[]⟩)]⟩) (.node (.node (.node .nil
 (some ⟨.func, 1, 8, [.d .nilf]⟩) .nil)
 (some ⟨.func, 1, 8, [.d .nilf]⟩) (.node .nil
 (some ⟨(.int .u16), 1, 2, [.d (.int .u16 (0))]⟩) .nil))
 none (.node (.node .nil
 (some ⟨(.array 256 5), 256, 256, [.d (.int .u8 (0)), .d (.int .u8 (0)), .d (.int .u8 (0)), .d (.int .u8 (0)), .d (.int .u8 (0)), .d (.int .u8 (0)), .d (.int .u8 (0)), .d (.int .u8 (0)), .d (.int .u8 (0)), .d (.int .u8 (0)), .d (.int .u8 (0)), .d (.int .u8 (0)), .d (.int .u8 (0)), .d (.int .u8 (0)), .d (.int .u8 (0)), .d (.int .u8 (0)), .d (.int .u8 (0)), .d (.int .u8 (0)), .d (.int .u8 (0)), .d (.int .u8 (0)), .d (.int .u8 (0)), .d (.int .u8 (0)), .d (.int .u8 (0)), .d (.int .u8 (0)), .d (.int .u8 (0)), .d (.int .u8 (0)), .d (.int .u8 (0)), .d (.int .u8 (0)), .d (.int .u8 (0)), .d (.int .u8 (0)), .d (.int .u8 (0)), .d (.int .u8 (0)), .d (.int .u8 (0)), .d (.int .u8 (0)), .d (.int .u8 (0)), .d (.int .u8 (0)), .d (.int .u8 (0)), .d (.int .u8 (0)), .d (.int .u8 (0)), .d (.int .u8 (0)), .d (.int .u8 (0)), .d (.int .u8 (0)), .d (.int .u8 (0)), .d (.int .u8 (0)), .d (.int .u8 (0)), .d (.int .u8 (0)), .d (.int .u8 (0)), .d (.int .u8 (0)), .d (.int .u8 (0)), .d (.int .u8 (0)), .d (.int .u8 (0)), .d (.int .u8 (0)), .d (.int .u8 (0)), .d (.int .u8 (0)), .d (.int .u8 (0)), .d (.int .u8 (0)), .d (.int .u8 (0)), .d (.int .u8 (0)), .d (.int .u8 (0)), .d (.int .u8 (0)), .d (.int .u8 (0)), .d (.int .u8 (0)), .d (.int .u8 (0)), .d (.int .u8 (0)), .d (.int .u8 (0)), .d (.int .u8 (0)), .d (.int .u8 (0)), .d (.int .u8 (0)), .d (.int .u8 (0)), .d (.int .u8 (0)), .d (.int .u8 (0)), .d (.int .u8 (0)), .d (.int .u8 (0)), .d (.int .u8 (0)), .d (.int .u8 (0)), .d (.int .u8 (0)), .d (.int .u8 (0)), .d (.int .u8 (0)), .d (.int .u8 (0)), .d (.int .u8 (0)), .d (.int .u8 (0)), .d (.int .u8 (0)), .d (.int .u8 (0)), .d (.int .u8 (0)), .d (.int .u8 (0)), .d (.int .u8 (0)), .d (.int .u8 (0)), .d (.int .u8 (0)), .d (.int .u8 (0)), .d (.int .u8 (0)), .d (.int .u8 (0)), .d (.int .u8 (0)), .d (.int .u8 (0)), .d (.int .u8 (0)), .d (.int .u8 (0)), .d (.int .u8 (0)), .d (.int .u8 (0)), .d (.int .u8 (0)), .d (.int .u8 (0)), .d (.int .u8 (0)), .d (.int .u8 (0)), .d (.int .u8 (0)), .d (.int .u8 (0)), .d (.int .u8 (0)), .d (.int .u8 (0)), .d (.int .u8 (0)), .d (.int .u8 (0)), .d (.int .u8 (0)), .d (.int .u8 (0)), .d (.int .u8 (0)), .d (.int .u8 (0)), .d (.int .u8 (0)), .d (.int .u8 (0)), .d (.int .u8 (0)), .d (.int .u8 (0)), .d (.int .u8 (0)), .d (.int .u8 (0)), .d (.int .u8 (0)), .d (.int .u8 (0)), .d (.int .u8 (0)), .d (.int .u8 (0)), .d (.int .u8 (0)), .d (.int .u8 (0)), .d (.int .u8 (0)), .d (.int .u8 (0)), .d (.int .u8 (0)), .d (.int .u8 (0)), .d (.int .u8 (0)), .d (.int .u8 (0)), .d (.int .u8 (0)), .d (.int .u8 (0)), .d (.int .u8 (0)), .d (.int .u8 (0)), .d (.int .u8 (0)), .d (.int .u8 (0)), .d (.int .u8 (0)), .d (.int .u8 (0)), .d (.int .u8 (0)), .d (.int .u8 (0)), .d (.int .u8 (0)), .d (.int .u8 (0)), .d (.int .u8 (0)), .d (.int .u8 (0)), .d (.int .u8 (0)), .d (.int .u8 (0)), .d (.int .u8 (0)), .d (.int .u8 (0)), .d (.int .u8 (0)), .d (.int .u8 (0)), .d (.int .u8 (0)), .d (.int .u8 (0)), .d (.int .u8 (0)), .d (.int .u8 (0)), .d (.int .u8 (0)), .d (.int .u8 (0)), .d (.int .u8 (0)), .d (.int .u8 (0)), .d (.int .u8 (0)), .d (.int .u8 (0)), .d (.int .u8 (0)), .d (.int .u8 (0)), .d (.int .u8 (0)), .d (.int .u8 (0)), .d (.int .u8 (0)), .d (.int .u8 (0)), .d (.int .u8 (0)), .d (.int .u8 (0)), .d (.int .u8 (0)), .d (.int .u8 (0)), .d (.int .u8 (0)), .d (.int .u8 (0)), .d (.int .u8 (0)), .d (.int .u8 (0)), .d (.int .u8 (0)), .d (.int .u8 (0)), .d (.int .u8 (0)), .d (.int .u8 (0)), .d (.int .u8 (0)), .d (.int .u8 (0)), .d (.int .u8 (0)), .d (.int .u8 (0)), .d (.int .u8 (0)), .d (.int .u8 (0)), .d (.int .u8 (0)), .d (.int .u8 (0)), .d (.int .u8 (0)), .d (.int .u8 (0)), .d (.int .u8 (0)), .d (.int .u8 (0)), .d (.int .u8 (0)), .d (.int .u8 (0)), .d (.int .u8 (0)), .d (.int .u8 (0)), .d (.int .u8 (0)), .d (.int .u8 (0)), .d (.int .u8 (0)), .d (.int .u8 (0)), .d (.int .u8 (0)), .d (.int .u8 (0)), .d (.int .u8 (0)), .d (.int .u8 (0)), .d (.int .u8 (0)), .d (.int .u8 (0)), .d (.int .u8 (0)), .d (.int .u8 (0)), .d (.int .u8 (0)), .d (.int .u8 (0)), .d (.int .u8 (0)), .d (.int .u8 (0)), .d (.int .u8 (0)), .d (.int .u8 (0)), .d (.int .u8 (0)), .d (.int .u8 (0)), .d (.int .u8 (0)), .d (.int .u8 (0)), .d (.int .u8 (0)), .d (.int .u8 (0)), .d (.int .u8 (0)), .d (.int .u8 (0)), .d (.int .u8 (0)), .d (.int .u8 (0)), .d (.int .u8 (0)), .d (.int .u8 (0)), .d (.int .u8 (0)), .d (.int .u8 (0)), .d (.int .u8 (0)), .d (.int .u8 (0)), .d (.int .u8 (0)), .d (.int .u8 (0)), .d (.int .u8 (0)), .d (.int .u8 (0)), .d (.int .u8 (0)), .d (.int .u8 (0)), .d (.int .u8 (0)), .d (.int .u8 (0)), .d (.int .u8 (0)), .d (.int .u8 (0)), .d (.int .u8 (0)), .d (.int .u8 (0)), .d (.int .u8 (0)), .d (.int .u8 (0)), .d (.int .u8 (0)), .d (.int .u8 (0)), .d (.int .u8 (0)), .d (.int .u8 (0)), .d (.int .u8 (0)), .d (.int .u8 (0)), .d (.int .u8 (0)), .d (.int .u8 (0)), .d (.int .u8 (0)), .d (.int .u8 (0)), .d (.int .u8 (0)), .d (.int .u8 (0)), .d (.int .u8 (0)), .d (.int .u8 (0)), .d (.int .u8 (0))]⟩) .nil)
 (some ⟨.func, 1, 8, [.d .nilf]⟩) (.node .nil
 (some ⟨.func, 1, 8, [.d .nilf]⟩) .nil))))
 (some ⟨(.int .u8), 1, 1, [.d (.int .u8 (0))]⟩) (.node (.node (.node (.node .nil
 (some ⟨.func, 1, 8, [.d .nilf]⟩) .nil)
 none (.node .nil
 (some ⟨(.slice 108), 1, 24, [.nils]⟩) .nil))
 (some ⟨(.slice 32), 1, 24, [.nils]⟩) (.node (.node .nil
 (some ⟨.func, 1, 8, [.d .nilf]⟩) .nil)
 (some ⟨(.array 2 3), 2, 16, [.d (.int .i64 (0)), .d (.int .i64 (0))]⟩) (.node .nil
 (some ⟨(.struct [(0, 117)]), 0, 0, []⟩) .nil)))
 (some ⟨(.struct [(0, 9), (1, 12)]), 2, 24, [.d (.str ⟨#[]⟩), .d (.int .u64 (0))]⟩) (.node (.node (.node .nil
 (some ⟨.func, 1, 8, [.d .nilf]⟩) .nil)
 none (.node .nil
 (some ⟨(.struct [(0, 97), (1, 97), (2, 97)]), 3, 12, [.d (.int .u32 (0)), .d (.int .u32 (0)), .d (.int .u32 (0))]⟩) .nil))
 (some ⟨.func, 1, 8, [.d .nilf]⟩) (.node (.node .nil
 (some ⟨(.slice 96), 1, 24, [.nils]⟩) .nil)
 (some ⟨.func, 1, 8, [.d .nilf]⟩) (.node .nil
 (some ⟨(.struct [(0, 12), (1, 12), (2, 97), (3, 120), (4, 5), (5, 5), (6, 121), (7, 122), (8, 75), (9, 123), (10, 124)]), 11, 48, [.d (.int .u64 (0)), .d (.int .u64 (0)), .d (.int .u32 (0)), .d (.int .u8 (0)), .d (.int .u8 (0)), .d (.int .u8 (0)), .d (.int .u8 (0)), .d .nilf, .d .nilp, .d (.int .i32 (0)), .d (.int .i32 (0))]⟩) .nil)))))))
/-- the table strings.asciiSpace -/
instance glb : Glb := ⟨fun b k v => b = 1 ∧ k < 256 ∧ v = .int .u8 (if Lib.isSp (UInt8.ofNat k) then 1 else 0), 53, 5⟩
def T [Ops] : Unit → Tab := fun _ => tbl.tab
noncomputable def P : Unit → Program := fun _ => Go.Proofs.Tryd.prog
theorem tabOk [Ops] : TabOk (P ()) (T ()) := Tables.tabOk (by kernel_rfl) rfl
end Go.VM

namespace Go.VM
open Go.Proofs
set_option maxRecDepth 100000
set_option linter.unusedVariables false
set_option linter.unusedSimpArgs false

def letterB (c : Int) : Bool := (97 ≤ c && c ≤ 122) || (65 ≤ c && c ≤ 90) || c == 95
def digitB (c : Int) : Bool := 48 ≤ c && c ≤ 57
def blankB (c : Int) : Bool := c == 32 || c == 9 || c == 10 || c == 13
/-- the byte at a place, or 0 behind the end -/
def atI (s : ByteArray) (i : Int) : Int := if i < s.size then btF s i else 0

theorem f38 (c : Int) : VFun (P ()) 38 [.d (.int .u8 c)] (fun r => ∃ b, b = letterB c ∧ r = .d (.bool b)) := by
  refine vfun (Tf := @T) @tabOk Tryd.func38 rfl rfl (Nat.le_of_ble_eq_true rfl) @fun ⟨_, _, _, _, _, _, _, _, _, _, _, _, _, _, _, _, _, _, _, _, _, _, _, _, _, _, _, _, _, _, _, _, _, _, _, _, _, _, wp, wf⟩ R hR => ?_
  cbv
  simp only [wp, wf, getL, nc, nc']
  try simp only [nc] at *
  clear wp wf
  replace hR := fun b H h => hR _ H _ (.d (.bool b)) ⟨b, h, rfl⟩
  repeat' first | refine ⟨?_, ?_⟩ | intro _
  all_goals first | (apply hR; simp [letterB]; omega) | omega
theorem f39 (c : Int) : VFun (P ()) 39 [.d (.int .u8 c)] (fun r => ∃ b, b = digitB c ∧ r = .d (.bool b)) := by
  refine vfun (Tf := @T) @tabOk Tryd.func39 rfl rfl (Nat.le_of_ble_eq_true rfl) @fun ⟨_, _, _, _, _, _, _, _, _, _, _, _, _, _, _, _, _, _, _, _, _, _, _, _, _, _, _, _, _, _, _, _, _, _, _, _, _, _, wp, wf⟩ R hR => ?_
  cbv
  simp only [wp, wf, getL, nc, nc']
  try simp only [nc] at *
  clear wp wf
  replace hR := fun b H h => hR _ H _ (.d (.bool b)) ⟨b, h, rfl⟩
  repeat' first | refine ⟨?_, ?_⟩ | intro _
  all_goals first | (apply hR; simp [digitB]; omega) | omega
theorem f52 (c : Int) : VFun (P ()) 52 [.d (.int .u8 c)] (fun r => ∃ b, b = blankB c ∧ r = .d (.bool b)) := by
  refine vfun (Tf := @T) @tabOk Tryd.func52 rfl rfl (Nat.le_of_ble_eq_true rfl) @fun ⟨_, _, _, _, _, _, _, _, _, _, _, _, _, _, _, _, _, _, _, _, _, _, _, _, _, _, _, _, _, _, _, _, _, _, _, _, _, _, wp, wf⟩ R hR => ?_
  cbv
  simp only [wp, wf, getL, nc, nc']
  try simp only [nc] at *
  clear wp wf
  replace hR := fun b H h => hR _ H _ (.d (.bool b)) ⟨b, h, rfl⟩
  repeat' first | refine ⟨?_, ?_⟩ | intro _
  all_goals first | (apply hR; simp [blankB]; omega) | omega
theorem f55 (c : Int) : VFun (P ()) 55 [.d (.int .i32 c)] (fun r => ∃ b, b = letterB c ∧ r = .d (.bool b)) := by
  refine vfun (Tf := @T) @tabOk Tryd.func55 rfl rfl (Nat.le_of_ble_eq_true rfl) @fun ⟨_, _, _, _, _, _, _, _, _, _, _, _, _, _, _, _, _, _, _, _, _, _, _, _, _, _, _, _, _, _, _, _, _, _, _, _, _, _, wp, wf⟩ R hR => ?_
  cbv
  simp only [wp, wf, getL, nc, nc']
  try simp only [nc] at *
  clear wp wf
  replace hR := fun b H h => hR _ H _ (.d (.bool b)) ⟨b, h, rfl⟩
  repeat' first | refine ⟨?_, ?_⟩ | intro _
  all_goals first | (apply hR; simp [letterB]; omega) | omega
theorem f57 (c : Int) : VFun (P ()) 57 [.d (.int .i32 c)] (fun r => ∃ b, b = digitB c ∧ r = .d (.bool b)) := by
  refine vfun (Tf := @T) @tabOk Tryd.func57 rfl rfl (Nat.le_of_ble_eq_true rfl) @fun ⟨_, _, _, _, _, _, _, _, _, _, _, _, _, _, _, _, _, _, _, _, _, _, _, _, _, _, _, _, _, _, _, _, _, _, _, _, _, _, wp, wf⟩ R hR => ?_
  cbv
  simp only [wp, wf, getL, nc, nc']
  try simp only [nc] at *
  clear wp wf
  replace hR := fun b H h => hR _ H _ (.d (.bool b)) ⟨b, h, rfl⟩
  repeat' first | refine ⟨?_, ?_⟩ | intro _
  all_goals first | (apply hR; simp [digitB]; omega) | omega
theorem f37 (s : ByteArray) (i : Int) (h0 : 0 ≤ i) : VFun (P ()) 37 [.d (.str s), .d (.int .i64 i)] (fun r => ∃ b, b = atI s i ∧ r = .d (.int .u8 b)) := by
  refine vfun (Tf := @T) @tabOk Tryd.func37 rfl rfl (Nat.le_of_ble_eq_true rfl) @fun ⟨_, _, _, _, _, _, _, _, _, _, _, _, _, _, _, _, _, _, _, _, _, _, _, _, _, _, _, _, _, _, _, _, _, _, _, _, _, _, wp, wf⟩ R hR => ?_
  cbv
  simp only [wp, wf, getL, nc, nc']
  try simp only [nc] at *
  clear wp wf
  replace hR := fun b H h => hR _ H _ (.d (.int .u8 b)) ⟨b, h, rfl⟩
  repeat' first | refine ⟨?_, ?_⟩ | intro _
  all_goals first | omega | (apply hR; simp only [atI]; split <;> first | rfl | omega)
theorem f54 (s : ByteArray) (i : Int) (h0 : 0 ≤ i) : VFun (P ()) 54 [.d (.str s), .d (.int .i64 i)] (fun r => ∃ b, b = atI s i ∧ r = .d (.int .i32 b)) := by
  refine vfun (Tf := @T) @tabOk Tryd.func54 rfl rfl (Nat.le_of_ble_eq_true rfl) @fun ⟨_, _, _, _, _, _, _, _, _, _, _, _, _, _, _, _, _, _, _, _, _, _, _, _, _, _, _, _, _, _, _, _, _, _, _, _, _, _, wp, wf⟩ R hR => ?_
  cbv
  simp only [wp, wf, getL, nc, nc']
  try simp only [nc] at *
  clear wp wf
  rw [w32 (by have := btF_lo s i; omega) (by have := btF_hi s i; omega)]
  replace hR := fun b H h => hR _ H _ (.d (.int .i32 b)) ⟨b, h, rfl⟩
  repeat' first | refine ⟨?_, ?_⟩ | intro _
  all_goals first | omega | (apply hR; simp only [atI]; split <;> first | rfl | omega)
end Go.VM

namespace Go.VM
open Go.Proofs
set_option maxRecDepth 100000
set_option linter.unusedVariables false
set_option linter.unusedSimpArgs false

/-- behind the places that are so, from a place on -/
def spanEnd (p : Nat → Bool) (n : Nat) (i : Nat) : Nat :=
  if i < n then (if p i then spanEnd p n (i + 1) else i) else n
termination_by n - i
def digitsE (s : ByteArray) (k : Nat) : Nat := spanEnd (fun i => digitB (btF s i)) s.size k
def nameP (s : ByteArray) (i : Nat) : Bool := letterB (btF s i) || digitB (btF s i) || btF s i == 39 || (btF s i == 46 && letterB (atI s (i + 1)))
def nameE (s : ByteArray) (k : Nat) : Nat := spanEnd (nameP s) s.size k

theorem ext_size (s : ByteArray) (k : Nat) (h : k ≤ s.size) : (s.extract k s.size).size = s.size - k := by
  simp [ByteArray.size_extract]

theorem ext_bt (s : ByteArray) (k p : Nat) (h : k + p < s.size) : btF (s.extract k s.size) p = btF s ((k + p : Nat) : Int) := by
  have h1 : p < (s.extract k s.size).size := by rw [ext_size s k (by omega)]; omega
  rw [btF_get _ _ h1, btF_get _ _ h]
  simp [ByteArray.getElem_extract]

theorem digit_hi (c : Int) (h : 128 ≤ c) : digitB c = false := by simp [digitB]; omega
theorem letter_hi (c : Int) (h : 128 ≤ c) : letterB c = false := by simp [letterB]; omega

theorem f58 (s : ByteArray) (i : Int) (k : Nat) (hk : i = k) (h1 : k ≤ s.size) (hs : s.size < 2 ^ 40) : VFun (P ()) 58 [.d (.str s), .d (.int .i64 i)] (fun r => ∃ b : Int, b = (digitsE s k : Nat) ∧ r = .d (.int .i64 b)) := by
  refine vfun (Tf := @T) @tabOk Tryd.func58 rfl rfl (Nat.le_of_ble_eq_true rfl) @fun ⟨_, _, _, _, _, _, _, _, _, _, _, _, _, _, _, _, _, _, _, _, _, _, _, _, _, _, _, _, _, _, _, _, _, _, _, _, _, _, wp, wf⟩ R hR => ?_
  cbv
  try simp only [wp, getL, takeL, dropL, TK.isAgg, reduceIte]
  replace hR := fun b H h => hR _ H _ (.d (.int .i64 b)) ⟨b, h, rfl⟩
  obtain ⟨t, ht⟩ : ∃ t, t = s.extract k s.size := ⟨_, rfl⟩
  have hsz : t.size = s.size - k := by rw [ht, ext_size s k h1]
  refine ⟨(by (try simp only [wf, nc, nc'] at *); (try simp (disch := omega) only [w64, w32, wu8] at *); omega), (by (try simp only [wf, nc, nc'] at *); (try simp (disch := omega) only [w64, w32, wu8] at *); omega), ?_⟩
  refine loopV (Tf := @T) @tabOk (fun p : Nat => ⟨mk 23 [(0, .d (.str s)), (1, .d (.int .i64 i)), (10, .itr 0)], [.iter t p]⟩) (fun p => s.size - k - p) (fun p => k + p ≤ s.size ∧ digitsE s (k + p) = digitsE s k) 0 ⟨by omega, rfl⟩ ?_ (fun p => rfl) @fun ⟨_, _, _, _, _, _, _, _, _, _, _, _, _, _, _, _, _, _, _, _, _, _, _, _, _, _, _, _, _, _, _, _, _, _, _, _, _, _, wpa, wfa⟩ p Bk hp hBk => ?_
  · (cbv; try simp only [wf, exD, exL, exT, exB, exA, leLs, leL_d, leL_undef, deq_refl, deq_int, deq_bool, deq_str, and_true, true_and, AObj.iter.injEq, nc, nc']; try simp (disch := omega) only [w64, w32, wu8])
    simp [ht, hk]
  (cbv; try simp only [wp, wpa, getL, takeL, dropL, TK.isAgg, reduceIte])
  obtain ⟨hp1, hp2⟩ := hp
  refine ⟨fun h => ?_, fun h => ?_⟩
  · have hlt : p < t.size := (by (try simp only [wf, wfa, nc, nc'] at *); (try simp (disch := omega) only [w64, w32, wu8] at *); omega)
    have hr := rune_p digitB digit_hi t p hlt
    have hb0 : btF t p = btF s ((k + p : Nat) : Int) := by rw [ht]; exact ext_bt s k p (by omega)
    have hu : digitsE s (k + p) = if digitB (btF s ((k + p : Nat) : Int)) then digitsE s (k + p + 1) else k + p := by
      rw [digitsE, spanEnd, if_pos (by omega)]
      rfl
    refine (f57 _).call ?_
    rintro _ ⟨b, hb, rfl⟩
    simp only [wfa] at hb
    rw [hr.1, hb0] at hb
    rw [← hb] at hu
    cases b <;> (cbv; try simp only [wp, wpa, getL, takeL, dropL, TK.isAgg, reduceIte])
    · apply hR
      ((try simp only [wf, wfa, nc, nc'] at *); (try simp (disch := omega) only [w64, w32, wu8] at *))
      rw [← hp2, hu, if_neg (by simp)]
      omega
    · have := (hr.2 (by rw [hb0]; exact hb.symm)).1
      refine hBk (p + 1) _ (by omega) ⟨by omega, by rw [← hp2, hu]; rfl⟩ ?_
      (cbv; try simp only [wf, wfa, exD, exL, exT, exB, exA, leLs, leL_d, leL_undef, deq_refl, deq_int, deq_bool, deq_str, and_true, true_and, AObj.iter.injEq, nc, nc']; try simp (disch := omega) only [w64, w32, wu8])
      omega
  · apply hR
    simp only [wf, wfa, nc, nc'] at *
    rw [← hp2, show k + p = s.size by omega, digitsE, spanEnd, if_neg (by omega)]

theorem name_step (s t : ByteArray) (k p : Nat) (ht : t = s.extract k s.size) (h : k + p < s.size) : (letterB (runeF t p) || digitB (runeF t p) || runeF t p == 39 || (runeF t p == 46 && letterB (atI s ((k : Int) + p + 1)))) = nameP s (k + p) ∧
    (nameP s (k + p) = true → widthF t p = 1) := by
  have hlt : p < t.size := by rw [ht, ext_size s k (by omega)]; omega
  have hb0 : btF t p = btF s ((k + p : Nat) : Int) := by rw [ht]; exact ext_bt s k p h
  have := rune_p (fun c => letterB c || digitB c || c == 39 || (c == 46 && letterB (atI s ((k : Int) + p + 1)))) (fun c hc => by
    simp only [letter_hi c hc, digit_hi c hc]
    simp
    omega) t p hlt
  rw [hb0] at this
  have e : nameP s (k + p) = (letterB (btF s ((k + p : Nat) : Int)) || digitB (btF s ((k + p : Nat) : Int)) || btF s ((k + p : Nat) : Int) == 39 || (btF s ((k + p : Nat) : Int) == 46 && letterB (atI s ((k : Int) + p + 1)))) := by
    unfold nameP
    rw [show ((k + p : Nat) : Int) + 1 = (k : Int) + p + 1 by omega]
  rw [e]
  exact ⟨this.1, fun h => (this.2 h).1⟩

theorem f56 (s : ByteArray) (i : Int) (k : Nat) (hk : i = k) (h1 : k ≤ s.size) (hs : s.size < 2 ^ 40) : VFun (P ()) 56 [.d (.str s), .d (.int .i64 i)] (fun r => ∃ b : Int, b = (nameE s k : Nat) ∧ r = .d (.int .i64 b)) := by
  refine vfun (Tf := @T) @tabOk Tryd.func56 rfl rfl (Nat.le_of_ble_eq_true rfl) @fun ⟨_, _, _, _, _, _, _, _, _, _, _, _, _, _, _, _, _, _, _, _, _, _, _, _, _, _, _, _, _, _, _, _, _, _, _, _, _, _, wp, wf⟩ R hR => ?_
  cbv
  try simp only [wp, getL, takeL, dropL, TK.isAgg, reduceIte]
  replace hR := fun b H h => hR _ H _ (.d (.int .i64 b)) ⟨b, h, rfl⟩
  obtain ⟨t, ht⟩ : ∃ t, t = s.extract k s.size := ⟨_, rfl⟩
  have hsz : t.size = s.size - k := by rw [ht, ext_size s k h1]
  refine ⟨(by (try simp only [wf, nc, nc'] at *); (try simp (disch := omega) only [w64, w32, wu8] at *); omega), (by (try simp only [wf, nc, nc'] at *); (try simp (disch := omega) only [w64, w32, wu8] at *); omega), ?_⟩
  refine loopV (Tf := @T) @tabOk (fun p : Nat => ⟨mk 42 [(0, .d (.str s)), (1, .d (.int .i64 i)), (10, .itr 0)], [.iter t p]⟩) (fun p => s.size - k - p) (fun p => k + p ≤ s.size ∧ nameE s (k + p) = nameE s k) 0 ⟨by omega, rfl⟩ ?_ (fun p => rfl) @fun ⟨_, _, _, _, _, _, _, _, _, _, _, _, _, _, _, _, _, _, _, _, _, _, _, _, _, _, _, _, _, _, _, _, _, _, _, _, _, _, wpa, wfa⟩ p Bk hp hBk => ?_
  · (cbv; try simp only [wf, exD, exL, exT, exB, exA, leLs, leL_d, leL_undef, deq_refl, deq_int, deq_bool, deq_str, and_true, true_and, AObj.iter.injEq, nc, nc']; try simp (disch := omega) only [w64, w32, wu8])
    simp [ht, hk]
  (cbv; try simp only [wp, wpa, getL, takeL, dropL, TK.isAgg, reduceIte])
  obtain ⟨hp1, hp2⟩ := hp
  refine ⟨fun h => ?_, fun h => ?_⟩
  · have hlt : k + p < s.size := (by (try simp only [wf, wfa, nc, nc'] at *); (try simp (disch := omega) only [w64, w32, wu8] at *); omega)
    have hu : nameE s (k + p) = if nameP s (k + p) then nameE s (k + p + 1) else k + p := by
      rw [nameE, spanEnd, if_pos hlt]
      rfl
    obtain ⟨nm1, nm2⟩ := name_step s t k p ht hlt
    have yes : nameP s (k + p) = true → widthF t p = 1 ∧ nameE s (k + (p + 1)) = nameE s k := fun h => ⟨nm2 h, by rw [← hp2, hu, if_pos h]; rfl⟩
    have no : nameP s (k + p) = false → ((k : Int) + p) = (nameE s k : Nat) := fun h => by rw [← hp2, hu, if_neg (by rw [h]; simp)]; simp
    clear hu nm2
    refine (f55 _).call ?_
    rintro _ ⟨b, hb, rfl⟩
    cases b <;> (cbv; try simp only [wp, wpa, getL, takeL, dropL, TK.isAgg, reduceIte])
    · refine (f57 _).call ?_
      rintro _ ⟨b2, hb2, rfl⟩
      cases b2 <;> (cbv; try simp only [wp, wpa, getL, takeL, dropL, TK.isAgg, reduceIte])
      · refine ⟨fun h39 => ?_, fun h39 => ⟨fun h46 => ?_, fun h46 => ?_⟩⟩
        · obtain ⟨y1, y2⟩ := yes (by ((try simp only [wf, wfa, nc, nc'] at *); (try simp (disch := omega) only [w64, w32, wu8] at *)); rw [← nm1]; simp [h39])
          refine hBk (p + 1) _ (by omega) ⟨by omega, y2⟩ ?_
          (cbv; try simp only [wf, wfa, exD, exL, exT, exB, exA, leLs, leL_d, leL_undef, deq_refl, deq_int, deq_bool, deq_str, and_true, true_and, AObj.iter.injEq, nc, nc']; try simp (disch := omega) only [w64, w32, wu8])
          omega
        · refine (f54 s _ (by (try simp only [wf, wfa, nc, nc'] at *); (try simp (disch := omega) only [w64, w32, wu8] at *); omega)).call ?_
          rintro _ ⟨b3, hb3, rfl⟩
          (cbv; try simp only [wp, wpa, getL, takeL, dropL, TK.isAgg, reduceIte])
          refine (f55 _).call ?_
          rintro _ ⟨b4, hb4, rfl⟩
          have h4 : letterB (atI s (↑k + ↑p + 1)) = b4 := by
            ((try simp only [wf, wfa, nc, nc'] at *); (try simp (disch := omega) only [w64, w32, wu8] at *))
            rw [hb4, hb3]
            congr 2
            omega
          cases b4 <;> (cbv; try simp only [wp, wpa, getL, takeL, dropL, TK.isAgg, reduceIte])
          · apply hR
            have := no (by rw [← nm1, h4]; ((try simp only [wf, wfa, nc, nc'] at *); (try simp (disch := omega) only [w64, w32, wu8] at *)); simp [← hb, ← hb2, h39])
            ((try simp only [wf, wfa, nc, nc'] at *); (try simp (disch := omega) only [w64, w32, wu8] at *))
            omega
          · obtain ⟨y1, y2⟩ := yes (by rw [← nm1, h4]; ((try simp only [wf, wfa, nc, nc'] at *); (try simp (disch := omega) only [w64, w32, wu8] at *)); simp [h46])
            refine hBk (p + 1) _ (by omega) ⟨by omega, y2⟩ ?_
            (cbv; try simp only [wf, wfa, exD, exL, exT, exB, exA, leLs, leL_d, leL_undef, deq_refl, deq_int, deq_bool, deq_str, and_true, true_and, AObj.iter.injEq, nc, nc']; try simp (disch := omega) only [w64, w32, wu8])
            omega
        · apply hR
          have := no (by rw [← nm1]; ((try simp only [wf, wfa, nc, nc'] at *); (try simp (disch := omega) only [w64, w32, wu8] at *)); simp [← hb, ← hb2, h39, h46])
          ((try simp only [wf, wfa, nc, nc'] at *); (try simp (disch := omega) only [w64, w32, wu8] at *))
          omega
      · obtain ⟨y1, y2⟩ := yes (by ((try simp only [wf, wfa, nc, nc'] at *); (try simp (disch := omega) only [w64, w32, wu8] at *)); rw [← nm1]; simp [← hb2])
        refine hBk (p + 1) _ (by omega) ⟨by omega, y2⟩ ?_
        (cbv; try simp only [wf, wfa, exD, exL, exT, exB, exA, leLs, leL_d, leL_undef, deq_refl, deq_int, deq_bool, deq_str, and_true, true_and, AObj.iter.injEq, nc, nc']; try simp (disch := omega) only [w64, w32, wu8])
        omega
    · obtain ⟨y1, y2⟩ := yes (by ((try simp only [wf, wfa, nc, nc'] at *); (try simp (disch := omega) only [w64, w32, wu8] at *)); rw [← nm1]; simp [← hb])
      refine hBk (p + 1) _ (by omega) ⟨by omega, y2⟩ ?_
      (cbv; try simp only [wf, wfa, exD, exL, exT, exB, exA, leLs, leL_d, leL_undef, deq_refl, deq_int, deq_bool, deq_str, and_true, true_and, AObj.iter.injEq, nc, nc']; try simp (disch := omega) only [w64, w32, wu8])
      omega
  · apply hR
    simp only [wf, wfa, nc, nc'] at *
    rw [← hp2, show k + p = s.size by omega, nameE, spanEnd, if_neg (by omega)]
end Go.VM

namespace Go.VM
open Go.Proofs
set_option maxRecDepth 100000
set_option linter.unusedVariables false
set_option linter.unusedSimpArgs false

def strsG (f : Nat → ByteArray) (i j : Nat) : D := .str (f i)
def eS : ByteArray := ⟨#[]⟩
def nthS (l : List ByteArray) (i : Nat) : ByteArray := l.getD i eS
/-- the signs, the keywords -/
def signsL : List ByteArray := [⟨#[58, 61]⟩, ⟨#[61, 62]⟩, ⟨#[45, 62]⟩, ⟨#[40]⟩, ⟨#[41]⟩, ⟨#[123]⟩, ⟨#[125]⟩, ⟨#[91]⟩, ⟨#[93]⟩, ⟨#[58]⟩, ⟨#[44]⟩, ⟨#[59]⟩, ⟨#[46]⟩, ⟨#[124]⟩, ⟨#[61]⟩, ⟨#[42]⟩, ⟨#[92]⟩]
def wordsL : List ByteArray := [⟨#[100, 101, 102]⟩, ⟨#[111, 112, 97, 113, 117, 101]⟩, ⟨#[97, 115, 115, 117, 109, 101]⟩, ⟨#[100, 97, 116, 97]⟩, ⟨#[119, 104, 101, 114, 101]⟩, ⟨#[102, 117, 110]⟩, ⟨#[108, 101, 116]⟩, ⟨#[105, 110]⟩, ⟨#[101, 108, 105, 109]⟩, ⟨#[111, 102]⟩, ⟨#[84, 121, 112, 101]⟩, ⟨#[80, 114, 111, 112]⟩, ⟨#[85, 110, 105, 116]⟩, ⟨#[115, 116, 97, 114]⟩, ⟨#[84, 114, 117, 101]⟩, ⟨#[70, 97, 108, 115, 101]⟩, ⟨#[114, 101, 102, 108]⟩, ⟨#[99, 97, 115, 116]⟩, ⟨#[97, 98, 115, 117, 114, 100]⟩, ⟨#[113, 117, 111, 116, 105, 101, 110, 116]⟩, ⟨#[99, 108, 97, 115, 115]⟩, ⟨#[111, 117, 116]⟩, ⟨#[115, 117, 98, 115, 116]⟩, ⟨#[95]⟩]

theorem deq_strs (l : List ByteArray) (n : Nat) (h : n = l.length) : Deq (.sl n 1 (rowF 1 (l.map .str))) (.sl n 1 (strsG (nthS l))) := by
  refine .sl _ _ _ _ fun i j hi hj => .of_eq ?_
  have hj0 : j = 0 := by omega
  subst hj0
  simp [rowF, strsG, nthS, List.getD_eq_getElem?_getD, List.getElem?_map, show i < l.length by omega]

theorem f41 : VFun (P ()) 41 [] (fun r => ∃ f, f = nthS signsL ∧ r = .d (.sl 17 1 (strsG f))) := by
  refine vfun (Tf := @T) @tabOk Tryd.func41 rfl rfl (Nat.le_of_ble_eq_true rfl) @fun ⟨_, _, _, _, _, _, _, _, _, _, _, _, _, _, _, _, _, _, _, _, _, _, _, _, _, _, _, _, _, _, _, _, _, _, _, _, _, _, wp, wf⟩ R hR => ?_
  cbv
  try simp only [wp, getL, takeL, dropL, TK.isAgg, reduceIte]
  rw [show ∀ l, _ = rowF 1 l from wf.2.2.2.2.2.2.2.2.2.2.2.2.2.2.2.2.2.2.2.2.2.2.2.2.2 1]
  exact hR _ _ _ (.deq _ _ _ (.ref0 0 17 1 17 0 _ rfl rfl) (deq_strs signsL 17 rfl)) ⟨_, rfl, rfl⟩
theorem f64 : VFun (P ()) 64 [] (fun r => ∃ f, f = nthS wordsL ∧ r = .d (.sl 24 1 (strsG f))) := by
  refine vfun (Tf := @T) @tabOk Tryd.func64 rfl rfl (Nat.le_of_ble_eq_true rfl) @fun ⟨_, _, _, _, _, _, _, _, _, _, _, _, _, _, _, _, _, _, _, _, _, _, _, _, _, _, _, _, _, _, _, _, _, _, _, _, _, _, wp, wf⟩ R hR => ?_
  cbv
  try simp only [wp, getL, takeL, dropL, TK.isAgg, reduceIte]
  rw [show ∀ l, _ = rowF 1 l from wf.2.2.2.2.2.2.2.2.2.2.2.2.2.2.2.2.2.2.2.2.2.2.2.2.2 1]
  exact hR _ _ _ (.deq _ _ _ (.ref0 0 24 1 24 0 _ rfl rfl) (deq_strs wordsL 24 rfl)) ⟨_, rfl, rfl⟩

/-- is it among the first n -/
def amongF (f : Nat → ByteArray) (s : ByteArray) : Nat → Nat → Bool
  | _, 0 => false
  | i, n + 1 => decide (f i = s) || amongF f s (i + 1) n
theorem amongF_step (f : Nat → ByteArray) (s : ByteArray) (i n : Nat) (h : i < n) : amongF f s i (n - i) = (decide (f i = s) || amongF f s (i + 1) (n - (i + 1))) := by
  rw [show n - i = n - (i + 1) + 1 by omega]
  rfl
def wordB (s : ByteArray) : Bool := amongF (nthS wordsL) s 0 24

theorem f40 (s : ByteArray) : VFun (P ()) 40 [.d (.str s)] (fun r => ∃ b, b = wordB s ∧ r = .d (.bool b)) := by
  refine vfun (Tf := @T) @tabOk Tryd.func40 rfl rfl (Nat.le_of_ble_eq_true rfl) @fun ⟨_, _, _, _, _, _, _, _, _, _, _, _, _, _, _, _, _, _, _, _, _, _, _, _, _, _, _, _, _, _, _, _, _, _, _, _, _, _, wp, wf⟩ R hR => ?_
  cbv
  try simp only [wp, getL, takeL, dropL, TK.isAgg, reduceIte]
  replace hR := fun b H h => hR _ H _ (.d (.bool b)) ⟨b, h, rfl⟩
  refine f64.call ?_
  rintro _ ⟨f, hf, rfl⟩
  (cbv; try simp only [wp, getL, takeL, dropL, TK.isAgg, reduceIte])
  refine loopV (Tf := @T) @tabOk (fun i : Nat => ⟨mk 18 [(0, .d (.str s)), (2, .d (.bool false)), (3, .d (.sl 24 1 (strsG f))), (4, .d (.int .i64 i))], []⟩) (fun i => 24 - i) (fun i => i ≤ 24 ∧ amongF f s i (24 - i) = wordB s) 0 ⟨by omega, by rw [hf]; rfl⟩ ?_ (fun i => rfl) @fun ⟨_, _, _, _, _, _, _, _, _, _, _, _, _, _, _, _, _, _, _, _, _, _, _, _, _, _, _, _, _, _, _, _, _, _, _, _, _, _, wpa, wfa⟩ i Bk hi hBk => ?_
  · (cbv; try simp only [wf, exD, exL, exT, exB, exA, leLs, leL_d, leL_undef, deq_refl, deq_int, deq_bool, deq_str, and_true, true_and, AObj.iter.injEq, nc, nc']; try simp (disch := omega) only [w64, w32, wu8])
    rfl
  (cbv; try simp only [wp, wpa, getL, takeL, dropL, TK.isAgg, reduceIte])
  obtain ⟨h1, h2⟩ := hi
  refine ⟨fun h => ⟨(by (try simp only [wf, wfa, nc, nc'] at *); (try simp (disch := omega) only [w64, w32, wu8] at *); omega), (by (try simp only [wf, wfa, nc, nc'] at *); (try simp (disch := omega) only [w64, w32, wu8] at *); omega), fun e => ?_, fun e => ?_⟩, fun h => ?_⟩
  · apply hR
    ((try simp only [wf, wfa, nc, nc'] at *); (try simp (disch := omega) only [w64, w32, wu8] at *))
    rw [← h2, amongF_step f s i 24 (by omega)]
    simp at e
    simp [e]
  · ((try simp only [wf, wfa, nc, nc'] at *); (try simp (disch := omega) only [w64, w32, wu8] at *))
    refine hBk (i + 1) _ (by omega) ⟨by omega, ?_⟩ ?_
    · rw [← h2, amongF_step f s i 24 (by omega)]
      simp at e
      simp [e]
    · (cbv; try simp only [wf, wfa, exD, exL, exT, exB, exA, leLs, leL_d, leL_undef, deq_refl, deq_int, deq_bool, deq_str, and_true, true_and, AObj.iter.injEq, nc, nc']; try simp (disch := omega) only [w64, w32, wu8])
  · apply hR
    ((try simp only [wf, wfa, nc, nc'] at *); (try simp (disch := omega) only [w64, w32, wu8] at *))
    rw [← h2, show i = 24 by omega]
    rfl
end Go.VM

namespace Go.VM
open Go.Proofs Go
set_option maxRecDepth 100000
set_option linter.unusedVariables false
set_option linter.unusedSimpArgs false

theorem vfun_calls2 {Q : Program} {K : FuncId} {s : ByteArray} {k k' : IntKind} {c r : Int} (h : ∀ w, Calls Q K #[.string s, .int k c] w fun e w' => e = .returned (.int k' r) ∧ w' = w) : VFun Q K [.d (.str s), .d (.int k c)] (fun x => x = .d (.int k' r)) := by
  intro H lim B ι I w vs hrel hargs
  obtain ⟨hl, hk⟩ := hargs
  match vs, hl with
  | [a, b], _ =>
    have h0 := hk 0 (by simp)
    have h1 := hk 1 (by simp)
    simp only [List.getD_cons_zero, List.getD_cons_succ] at h0 h1
    cases h0 with | d _ _ h0 =>
    cases h1 with | d _ _ h1 =>
    cases h0
    cases h1
    refine (h w).mono ?_
    rintro e w' ⟨rfl, rfl⟩
    exact ⟨_, _, H, ι, I, rfl, ⟨rfl, rfl⟩, hrel, .d _ _ (.int _ _), ⟨.refl _ _, fun _ _ _ => rfl, fun _ _ h => h, Nat.le_refl _, fun _ _ h => h⟩⟩

set_option maxHeartbeats 1000000 in
theorem calls73 (s : ByteArray) (c : Int) (w : World) :
    Calls Tryd.prog 73 #[.string s, .int .u8 c] w fun e w' => e = .returned (.int .i64 (Lib.indexByte s.data.toList c.toNat.toUInt8)) ∧ w' = w := by
  go_enter Tryd.func73, Tryd.ntmps73
  go_wp2
  rw [run_callFunc_extern Tryd.func78 (by kernel_rfl) (by kernel_rfl) (by kernel_rfl) (e := Extern.BytealgIndexByte.indexByte) (by kernel_rfl), Lib.run_indexByteString]
  simp only [Result.andThen]
  rw [Oper.upon_value]
  go_wp2
  go_ret
  exact ⟨rfl, rfl⟩

theorem f73 (s : ByteArray) (c : Int) : VFun (P ()) 73 [.d (.str s), .d (.int .u8 c)] (fun r => r = .d (.int .i64 (Lib.indexByte s.data.toList c.toNat.toUInt8))) := vfun_calls2 (calls73 s c)

theorem f69 (s : ByteArray) (c : Int) : VFun (P ()) 69 [.d (.str s), .d (.int .u8 c)] (fun r => ∃ b, b = Lib.indexByte s.data.toList c.toNat.toUInt8 ∧ r = .d (.int .i64 b)) := by
  refine vfun (Tf := @T) @tabOk Tryd.func69 rfl rfl (Nat.le_of_ble_eq_true rfl) @fun ⟨_, _, _, _, _, _, _, _, _, _, _, _, _, _, _, _, _, _, _, _, _, _, _, _, _, _, _, _, _, _, _, _, _, _, _, _, _, _, wp, wf⟩ R hR => ?_
  cbv
  try simp only [wp, getL, takeL, dropL, TK.isAgg, reduceIte]
  refine (f73 _ _).call ?_
  rintro _ rfl
  generalize hb : Lib.indexByte s.data.toList c.toNat.toUInt8 = b at *
  (cbv; try simp only [wp, getL, takeL, dropL, TK.isAgg, reduceIte])
  exact hR _ _ _ (.d _) ⟨_, rfl, rfl⟩

/-- the bytes at a place -/
def preB (s p : ByteArray) : Bool := decide (p.size ≤ s.size) && decide (s.extract 0 p.size = p)

theorem f70 (s p : ByteArray) : VFun (P ()) 70 [.d (.str s), .d (.str p)] (fun r => ∃ b, b = preB s p ∧ r = .d (.bool b)) := by
  refine vfun (Tf := @T) @tabOk Tryd.func70 rfl rfl (Nat.le_of_ble_eq_true rfl) @fun ⟨_, _, _, _, _, _, _, _, _, _, _, _, _, _, _, _, _, _, _, _, _, _, _, _, _, _, _, _, _, _, _, _, _, _, _, _, _, _, wp, wf⟩ R hR => ?_
  cbv
  try simp only [wp, getL, takeL, dropL, TK.isAgg, reduceIte]
  replace hR := fun b H h => hR _ H _ (.d (.bool b)) ⟨b, h, rfl⟩
  refine ⟨fun h => ⟨(by (try simp only [wf, nc, nc'] at *); (try simp (disch := omega) only [w64, w32, wu8] at *); omega), (by (try simp only [wf, nc, nc'] at *); (try simp (disch := omega) only [w64, w32, wu8] at *); omega), (by (try simp only [wf, nc, nc'] at *); (try simp (disch := omega) only [w64, w32, wu8] at *); omega), fun e => ?_, fun e => ?_⟩, fun h => ?_⟩
  · apply hR
    ((try simp only [wf, nc, nc'] at *); (try simp (disch := omega) only [w64, w32, wu8] at *))
    have h : p.size ≤ s.size := by omega
    simp at e
    simp [preB, h, e]
  · apply hR
    ((try simp only [wf, nc, nc'] at *); (try simp (disch := omega) only [w64, w32, wu8] at *))
    have h : p.size ≤ s.size := by omega
    simp at e
    simp [preB, h, e]
  · apply hR
    ((try simp only [wf, nc, nc'] at *); (try simp (disch := omega) only [w64, w32, wu8] at *))
    have h : ¬ p.size ≤ s.size := by omega
    simp [preB, h]
theorem f63 (s p : ByteArray) : VFun (P ()) 63 [.d (.str s), .d (.str p)] (fun r => ∃ b, b = preB s p ∧ r = .d (.bool b)) := by
  refine vfun (Tf := @T) @tabOk Tryd.func63 rfl rfl (Nat.le_of_ble_eq_true rfl) @fun ⟨_, _, _, _, _, _, _, _, _, _, _, _, _, _, _, _, _, _, _, _, _, _, _, _, _, _, _, _, _, _, _, _, _, _, _, _, _, _, wp, wf⟩ R hR => ?_
  cbv
  try simp only [wp, getL, takeL, dropL, TK.isAgg, reduceIte]
  replace hR := fun b H h => hR _ H _ (.d (.bool b)) ⟨b, h, rfl⟩
  refine (f70 _ _).call ?_
  rintro _ ⟨b, hb, rfl⟩
  (cbv; try simp only [wp, getL, takeL, dropL, TK.isAgg, reduceIte])
  exact hR _ _ hb
end Go.VM

namespace Go.VM
open Go.Proofs Go
set_option maxRecDepth 100000
set_option linter.unusedVariables false
set_option linter.unusedSimpArgs false

theorem spanEnd_bounds (p : Nat → Bool) (n : Nat) : ∀ (m i : Nat), n - i = m → i ≤ n → i ≤ spanEnd p n i ∧ spanEnd p n i ≤ n
  | 0, i, hm, hi => by rw [spanEnd, if_neg (by omega)]; omega
  | m + 1, i, hm, hi => by
    rw [spanEnd, if_pos (by omega)]
    have := spanEnd_bounds p n m (i + 1) (by omega) (by omega)
    split <;> omega
/-- behind the line -/
def lineE (s : ByteArray) (k : Nat) : Nat := spanEnd (fun i => btF s i != 10) s.size k
def twoB (s : ByteArray) (i : Nat) (a b : Int) : Bool := decide (i + 1 < s.size) && btF s i == a && btF s ((i : Int) + 1) == b
/-- behind the comment in braces, or -1 -/
def blkE (s : ByteArray) (i deep : Nat) : Int :=
  if i + 1 < s.size then
    (if twoB s i 123 45 then blkE s (i + 2) (deep + 1)
    else if twoB s i 45 125 then (if deep ≤ 1 then (i : Int) + 2 else blkE s (i + 2) (deep - 1))
    else blkE s (i + 1) deep)
  else -1
termination_by s.size - i
def comE (s : ByteArray) (k : Nat) : Int := if twoB s k 45 45 then (lineE s k : Nat) else if twoB s k 123 45 then blkE s k 0 else k
def comB (s : ByteArray) (k : Nat) : Bool := twoB s k 45 45 || twoB s k 123 45

theorem btF_u8 (s : ByteArray) (i : Nat) (h : i < s.size) (a : UInt8) : (btF s i == (a.toNat : Int)) = decide (s[i]'h = a) := by
  rw [btF_get s i h]
  by_cases e : s[i]'h = a
  · simp [e]
  · have : (s[i]'h).toNat ≠ a.toNat := fun h' => e (UInt8.toNat_inj.1 h')
    simp [e]
    omega
theorem ext2 (t : ByteArray) (h : 2 ≤ t.size) (a b : UInt8) : t.extract 0 2 = ⟨#[a, b]⟩ ↔ t[0]'(by omega) = a ∧ t[1]'(by omega) = b := by
  constructor
  · intro e
    have h0 : (t.extract 0 2)[0]'(by simp [ByteArray.size_extract]; omega) = t[0]'(by omega) := by simp [ByteArray.getElem_extract]
    have h1 : (t.extract 0 2)[1]'(by simp [ByteArray.size_extract]; omega) = t[1]'(by omega) := by simp [ByteArray.getElem_extract]
    constructor
    · rw [← h0]; simp [e]; rfl
    · rw [← h1]; simp [e]; rfl
  · rintro ⟨h0, h1⟩
    apply ByteArray.ext_getElem
    · simp [ByteArray.size_extract]
      rw [Nat.min_eq_left h]
      rfl
    · intro i hi1 hi2
      have hi : i < 2 := hi2
      rw [ByteArray.getElem_extract]
      match i, hi with
      | 0, _ => simp; exact h0
      | 1, _ => simp; exact h1
theorem ext_get (s : ByteArray) (k i : Nat) (h : i < (s.extract k s.size).size) : (s.extract k s.size)[i] = s[k + i]'(by simp [ByteArray.size_extract] at h; omega) := by simp [ByteArray.getElem_extract]
theorem pre_two (s : ByteArray) (k : Nat) (hk : k ≤ s.size) (a b : UInt8) : preB (s.extract k s.size) ⟨#[a, b]⟩ = twoB s k a.toNat b.toNat := by
  have hsz := ext_size s k hk
  have h2 : (⟨#[a, b]⟩ : ByteArray).size = 2 := rfl
  unfold preB twoB
  rw [h2, hsz]
  by_cases h : k + 1 < s.size
  · rw [show ((k : Int) + 1) = ((k + 1 : Nat) : Int) by omega, btF_u8 s k (by omega), btF_u8 s (k + 1) h]
    have := ext2 (s.extract k s.size) (by omega) a b
    rw [ext_get, ext_get] at this
    simp only [Nat.add_zero] at this
    by_cases e : s[k] = a ∧ s[k + 1] = b
    · simp [h, show 2 ≤ s.size - k by omega, this.2 e, e.1, e.2]
    · have e' := mt this.1 e
      have : (decide (s[k] = a) && decide (s[k + 1] = b)) = false := by simpa using e
      simp [h, show 2 ≤ s.size - k by omega, e', this]
  · simp [h, show ¬ 2 ≤ s.size - k by omega]

theorem drop_ext (s : ByteArray) (k : Nat) : (s.extract k s.size).data.toList = s.data.toList.drop k := by
  simp
  rw [List.take_of_length_le]
  simp [List.length_drop]

theorem idx_line (s : ByteArray) : ∀ (n k : Nat), s.size - k = n → k ≤ s.size → (0 ≤ Lib.indexByte (s.data.toList.drop k) 10 → (lineE s k : Int) = k + Lib.indexByte (s.data.toList.drop k) 10) ∧
    (Lib.indexByte (s.data.toList.drop k) 10 < 0 → lineE s k = s.size) ∧ -1 ≤ Lib.indexByte (s.data.toList.drop k) 10
  | 0, k, hn, hk => by
    have : s.data.toList.drop k = [] := List.drop_eq_nil_of_le (by simp; show s.size ≤ k; omega)
    rw [this]
    refine ⟨fun h => by simp [Lib.indexByte] at h, fun _ => ?_, by simp [Lib.indexByte]⟩
    rw [lineE, spanEnd, if_neg (by omega)]
  | n + 1, k, hn, hk => by
    have hlt : k < s.data.toList.length := by simp; show k < s.size; omega
    have ih := idx_line s n (k + 1) (by omega) (by omega)
    have hd : s.data.toList.drop k = s[k]'(by omega) :: s.data.toList.drop (k + 1) := by
      rw [List.drop_eq_getElem_cons hlt]
      rfl
    have hu : lineE s k = if btF s k != 10 then lineE s (k + 1) else k := by
      rw [lineE, spanEnd, if_pos (by omega)]
      rfl
    have hb := btF_u8 s k (by omega) 10
    rw [hd]
    simp only [Lib.indexByte]
    by_cases e : s[k]'(by omega) = 10
    · have : btF s k = 10 := by simpa [e] using hb
      simp [e, hu, this]
    · have : (btF s k == 10) = false := by simpa [e] using hb
      have e1 : (s[k]'(by omega) == 10) = false := by simpa using e
      simp only [bne, this, Bool.not_false, if_true] at hu
      simp only [e1, Bool.false_eq_true, if_false]
      obtain ⟨i1, i2, i3⟩ := ih
      by_cases h1 : Lib.indexByte (s.data.toList.drop (k + 1)) 10 = -1
      · rw [h1] at i2 ⊢
        refine ⟨fun h => by simp at h, fun _ => by rw [hu]; exact i2 (by omega), by simp⟩
      · have : (Lib.indexByte (s.data.toList.drop (k + 1)) 10 == -1) = false := by simpa using h1
        simp only [this, Bool.false_eq_true, if_false]
        rw [hu]
        refine ⟨fun h => ?_, fun h => by omega, by omega⟩
        rw [i1 (by omega)]
        omega

theorem f53 (s : ByteArray) (i : Int) (k : Nat) (hk : i = k) (h1 : k < s.size) (hs : s.size < 2 ^ 40) : VFun (P ()) 53 [.d (.str s), .d (.int .i64 i)] (fun r => ∃ (x : Int) (b : Bool), x = comE s k ∧ b = comB s k ∧ r = .tup [.d (.int .i64 x), .d (.bool b)]) := by
  refine vfun (Tf := @T) @tabOk Tryd.func53 rfl rfl (Nat.le_of_ble_eq_true rfl) @fun ⟨_, _, _, _, _, _, _, _, _, _, _, _, _, _, _, _, _, _, _, _, _, _, _, _, _, _, _, _, _, _, _, _, _, _, _, _, _, _, wp, wf⟩ R hR => ?_
  cbv
  try simp only [wp, getL, takeL, dropL, TK.isAgg, reduceIte]
  have ht : s.extract i.toNat (s.size : Int).toNat = s.extract k s.size := by rw [hk]; simp
  have p1 := pre_two s k (by omega) 45 45
  have p2 := pre_two s k (by omega) 123 45
  refine ⟨(by (try simp only [wf, nc, nc'] at *); (try simp (disch := omega) only [w64, w32, wu8] at *); omega), (by (try simp only [wf, nc, nc'] at *); (try simp (disch := omega) only [w64, w32, wu8] at *); omega), ?_⟩
  refine (f63 _ _).call ?_
  rintro _ ⟨b, hb, rfl⟩
  replace hb : b = twoB s k 45 45 := by ((try simp only [wf, nc, nc'] at *); (try simp (disch := omega) only [w64, w32, wu8] at *)); rw [hb, ht]; exact p1
  cases b <;> (cbv; try simp only [wp, getL, takeL, dropL, TK.isAgg, reduceIte])
  · refine ⟨(by (try simp only [wf, nc, nc'] at *); (try simp (disch := omega) only [w64, w32, wu8] at *); omega), (by (try simp only [wf, nc, nc'] at *); (try simp (disch := omega) only [w64, w32, wu8] at *); omega), ?_⟩
    refine (f63 _ _).call ?_
    rintro _ ⟨b2, hb2, rfl⟩
    replace hb2 : b2 = twoB s k 123 45 := by ((try simp only [wf, nc, nc'] at *); (try simp (disch := omega) only [w64, w32, wu8] at *)); rw [hb2, ht]; exact p2
    cases b2 <;> (cbv; try simp only [wp, getL, takeL, dropL, TK.isAgg, reduceIte])
    · refine hR _ _ _ (.tup2 (.d _) (.d _)) ⟨i, false, ?_, ?_, rfl⟩
      · ((try simp only [wf, nc, nc'] at *); (try simp (disch := omega) only [w64, w32, wu8] at *))
        simp [comE, ← hb, ← hb2, hk]
      · simp [comB, ← hb, ← hb2]
    · have hc1 : comE s k = blkE s k 0 := by simp [comE, ← hb, ← hb2]
      have hc2 : comB s k = true := by simp [comB, ← hb2]
      refine loopV (Tf := @T) @tabOk (fun (q : Nat × Nat) => ⟨mk 58 [(0, .d (.str s)), (7, .d (.int .i64 q.2)), (8, .d (.int .i64 q.1))], []⟩) (fun q => s.size - q.1) (fun q => q.1 ≤ s.size ∧ q.2 ≤ q.1 ∧ (if q.1 = k then q.2 = 0 else 1 ≤ q.2) ∧ k ≤ q.1 ∧ blkE s q.1 q.2 = blkE s k 0) (k, 0) ⟨by omega, by omega, by simp, by omega, rfl⟩ ?_ (fun q => rfl) @fun ⟨_, _, _, _, _, _, _, _, _, _, _, _, _, _, _, _, _, _, _, _, _, _, _, _, _, _, _, _, _, _, _, _, _, _, _, _, _, _, wpa, wfa⟩ ⟨i, d⟩ Bk hi hBk => ?_
      · (cbv; try simp only [wf, exD, exL, exT, exB, exA, leLs, leL_d, leL_undef, deq_refl, deq_int, deq_bool, deq_str, and_true, true_and, AObj.iter.injEq, nc, nc']; try simp (disch := omega) only [w64, w32, wu8])
        simp [hk]
      (cbv; try simp only [wp, wpa, getL, takeL, dropL, TK.isAgg, reduceIte])
      obtain ⟨q1, q2, q3, q4, q5⟩ := hi
      dsimp only at q1 q2 q3 q4 q5
      have t1 := pre_two s i q1 123 45
      have t2 := pre_two s i q1 45 125
      have hst : s.extract i s.size = s.extract ((i : Int).toNat) ((s.size : Int).toNat) := by simp
      rw [hst] at t1 t2
      refine ⟨fun h => ⟨(by (try simp only [wf, wfa, nc, nc'] at *); (try simp (disch := omega) only [w64, w32, wu8] at *); omega), (by (try simp only [wf, wfa, nc, nc'] at *); (try simp (disch := omega) only [w64, w32, wu8] at *); omega), ?_⟩, fun h => ?_⟩
      · refine (f63 _ _).call ?_
        rintro _ ⟨b3, hb3, rfl⟩
        replace hb3 : b3 = twoB s i 123 45 := by ((try simp only [wf, wfa, nc, nc'] at *); (try simp (disch := omega) only [w64, w32, wu8] at *)); rw [hb3]; exact t1
        have hlt : i < s.size := (by (try simp only [wf, wfa, nc, nc'] at *); (try simp (disch := omega) only [w64, w32, wu8] at *); omega)
        have hu := blkE.eq_1 s i d
        have hd0 : twoB s i 123 45 = false → 1 ≤ d := fun h0 => by
          by_cases e : i = k
          · rw [e, ← hb2] at h0; cases h0
          · rw [if_neg e] at q3; exact q3
        cases b3 <;> (cbv; try simp only [wp, wpa, getL, takeL, dropL, TK.isAgg, reduceIte])
        · refine ⟨(by (try simp only [wf, wfa, nc, nc'] at *); (try simp (disch := omega) only [w64, w32, wu8] at *); omega), (by (try simp only [wf, wfa, nc, nc'] at *); (try simp (disch := omega) only [w64, w32, wu8] at *); omega), ?_⟩
          refine (f63 _ _).call ?_
          rintro _ ⟨b4, hb4, rfl⟩
          replace hb4 : b4 = twoB s i 45 125 := by ((try simp only [wf, wfa, nc, nc'] at *); (try simp (disch := omega) only [w64, w32, wu8] at *)); rw [hb4]; exact t2
          have hd1 := hd0 hb3.symm
          rw [← hb3, ← hb4] at hu
          cases b4 <;> (cbv; try simp only [wp, wpa, getL, takeL, dropL, TK.isAgg, reduceIte])
          · refine ⟨fun h0 => absurd h0 (by (try simp only [wf, wfa, nc, nc'] at *); (try simp (disch := omega) only [w64, w32, wu8] at *); omega), fun h0 => ?_⟩
            have hu2 : blkE s (i + 1) d = blkE s k 0 := by
              rw [← q5, hu]
              by_cases e : i + 1 < s.size
              · simp [e]
              · rw [if_neg e, blkE, if_neg (by omega)]
            refine hBk (i + 1, d) _ (by dsimp only; omega) ⟨by dsimp only; omega, by dsimp only; omega, ?_, by dsimp only; omega, hu2⟩ ?_
            · dsimp only
              rw [if_neg (by omega)]
              exact hd1
            · (cbv; try simp only [wf, wfa, exD, exL, exT, exB, exA, leLs, leL_d, leL_undef, deq_refl, deq_int, deq_bool, deq_str, and_true, true_and, AObj.iter.injEq, nc, nc']; try simp (disch := omega) only [w64, w32, wu8])
              omega
          · have hlt2 : i + 1 < s.size := by
              simp [twoB] at hb4
              omega
            simp only [if_pos hlt2, Bool.false_eq_true, if_false, if_true] at hu
            refine ⟨fun h0 => ?_, fun h0 => ?_⟩
            · refine hR _ _ _ (.tup2 (.d _) (.d _)) ⟨_, true, ?_, hc2.symm, rfl⟩
              ((try simp only [wf, wfa, nc, nc'] at *); (try simp (disch := omega) only [w64, w32, wu8] at *))
              rw [hc1, ← q5, hu, if_pos (by omega)]
            · have h0' : d ≠ 1 := by ((try simp only [wf, wfa, nc, nc'] at *); (try simp (disch := omega) only [w64, w32, wu8] at *)); omega
              rw [if_neg (by omega)] at hu
              obtain ⟨d2, hd2⟩ : ∃ d2, d2 = d - 1 := ⟨_, rfl⟩
              rw [← hd2] at hu
              refine hBk (i + 2, d2) _ (by dsimp only; omega) ⟨by dsimp only; omega, by dsimp only; omega, ?_, by dsimp only; omega, by dsimp only; rw [← q5, hu]⟩ ?_
              · dsimp only
                rw [if_neg (by omega)]
                omega
              · (cbv; try simp only [wf, wfa, exD, exL, exT, exB, exA, leLs, leL_d, leL_undef, deq_refl, deq_int, deq_bool, deq_str, and_true, true_and, AObj.iter.injEq, nc, nc']; try simp (disch := omega) only [w64, w32, wu8])
                omega
        · have hlt2 : i + 1 < s.size := by
            simp [twoB] at hb3
            omega
          rw [← hb3] at hu
          simp only [if_pos hlt2, if_true] at hu
          refine ⟨fun h0 => absurd h0 (by (try simp only [wf, wfa, nc, nc'] at *); (try simp (disch := omega) only [w64, w32, wu8] at *); omega), fun h0 => ?_⟩
          refine hBk (i + 2, d + 1) _ (by dsimp only; omega) ⟨by dsimp only; omega, by dsimp only; omega, ?_, by dsimp only; omega, by dsimp only; rw [← q5, hu]⟩ ?_
          · dsimp only
            rw [if_neg (by omega)]
            omega
          · (cbv; try simp only [wf, wfa, exD, exL, exT, exB, exA, leLs, leL_d, leL_undef, deq_refl, deq_int, deq_bool, deq_str, and_true, true_and, AObj.iter.injEq, nc, nc']; try simp (disch := omega) only [w64, w32, wu8])
            omega
      · refine hR _ _ _ (.tup2 (.d _) (.d _)) ⟨_, true, ?_, hc2.symm, rfl⟩
        ((try simp only [wf, wfa, nc, nc'] at *); (try simp (disch := omega) only [w64, w32, wu8] at *))
        rw [hc1, ← q5, blkE, if_neg (by omega)]
  · refine ⟨(by (try simp only [wf, nc, nc'] at *); (try simp (disch := omega) only [w64, w32, wu8] at *); omega), (by (try simp only [wf, nc, nc'] at *); (try simp (disch := omega) only [w64, w32, wu8] at *); omega), ?_⟩
    obtain ⟨l1, l2, l3⟩ := idx_line s _ k rfl (by omega)
    refine (f69 _ _).call ?_
    rintro _ ⟨x, hx, rfl⟩
    replace hx : x = Lib.indexByte (s.data.toList.drop k) 10 := by ((try simp only [wf, nc, nc'] at *); (try simp (disch := omega) only [w64, w32, wu8] at *)); rw [hx, ht, drop_ext]; rfl
    rw [← hx] at l1 l2 l3
    have hc1 : comE s k = (lineE s k : Nat) := by simp [comE, ← hb]
    have hc2 : comB s k = true := by simp [comB, ← hb]
    (cbv; try simp only [wp, getL, takeL, dropL, TK.isAgg, reduceIte])
    refine ⟨fun h => ?_, fun h => ?_⟩
    · refine hR _ _ _ (.tup2 (.d _) (.d _)) ⟨_, true, ?_, hc2.symm, rfl⟩
      have l4 := (spanEnd_bounds (fun i => btF s i != 10) s.size _ k rfl (by omega)).2
      have l5 : (lineE s k : Int) ≤ s.size := by unfold lineE; omega
      have l6 := l1 (by (try simp only [wf, nc, nc'] at *); (try simp (disch := omega) only [w64, w32, wu8] at *); omega)
      rw [hc1, l6]
      clear l1 l2 l4 hx
      ((try simp only [wf, nc, nc'] at *); (try simp (disch := omega) only [w64, w32, wu8] at *))
      omega
    · refine hR _ _ _ (.tup2 (.d _) (.d _)) ⟨_, true, ?_, hc2.symm, rfl⟩
      ((try simp only [wf, nc, nc'] at *); (try simp (disch := omega) only [w64, w32, wu8] at *))
      rw [hc1, l2 (by omega)]
end Go.VM

namespace Go.VM
open Go.Proofs Go
set_option maxRecDepth 100000
set_option linter.unusedVariables false
set_option linter.unusedSimpArgs false

/-- behind the gap at a place, and the error of a comment that is not closed -/
def gapE (s : ByteArray) (k : Nat) : Int :=
  if k < s.size then
    (if blankB (btF s k) then k + 1
    else if comB s k then (if comE s k < 0 then k else comE s k)
    else k)
  else k
def gapF (s : ByteArray) (k : Nat) : Int := if k < s.size ∧ comB s k = true ∧ comE s k < 0 ∧ blankB (btF s k) = false then 10 else 0

theorem f23 (s : ByteArray) (i : Int) (k : Nat) (hk : i = k) (h1 : k ≤ s.size) (hs : s.size < 2 ^ 40) : VFun (P ()) 23 [.d (.str s), .d (.int .i64 i)] (fun r => ∃ (x e : Int), x = gapE s k ∧ e = gapF s k ∧ r = .tup [.d (.int .i64 x), .d (.int .i64 e)]) := by
  refine vfun (Tf := @T) @tabOk Tryd.func23 rfl rfl (Nat.le_of_ble_eq_true rfl) @fun ⟨_, _, _, _, _, _, _, _, _, _, _, _, _, _, _, _, _, _, _, _, _, _, _, _, _, _, _, _, _, _, _, _, _, _, _, _, _, _, wp, wf⟩ R hR => ?_
  cbv
  try simp only [wp, getL, takeL, dropL, TK.isAgg, reduceIte]
  replace hR := fun x e H h1 h2 => hR _ H _ (.tup2 (.d (.int .i64 x)) (.d (.int .i64 e))) ⟨x, e, h1, h2, rfl⟩
  have hb : btF s i = btF s (k : Int) := by rw [hk]
  have hat : ∀ x : Int, x = k + 1 → atI s x = (if k + 1 < s.size then btF s ((k : Int) + 1) else 0) := fun x hx => by rw [hx, atI]; congr 1; simp; omega
  refine ⟨fun h => ?_, fun h => ⟨(by (try simp only [wf, nc, nc'] at *); (try simp (disch := omega) only [w64, w32, wu8] at *); omega), (by (try simp only [wf, nc, nc'] at *); (try simp (disch := omega) only [w64, w32, wu8] at *); omega), fun c1 => ?_, fun c1 => ⟨(by (try simp only [wf, nc, nc'] at *); (try simp (disch := omega) only [w64, w32, wu8] at *); omega), (by (try simp only [wf, nc, nc'] at *); (try simp (disch := omega) only [w64, w32, wu8] at *); omega), fun c2 => ?_, fun c2 => ⟨(by (try simp only [wf, nc, nc'] at *); (try simp (disch := omega) only [w64, w32, wu8] at *); omega), (by (try simp only [wf, nc, nc'] at *); (try simp (disch := omega) only [w64, w32, wu8] at *); omega), fun c3 => ?_, fun c3 => ⟨(by (try simp only [wf, nc, nc'] at *); (try simp (disch := omega) only [w64, w32, wu8] at *); omega), (by (try simp only [wf, nc, nc'] at *); (try simp (disch := omega) only [w64, w32, wu8] at *); omega), fun c4 => ?_, fun c4 => ⟨(by (try simp only [wf, nc, nc'] at *); (try simp (disch := omega) only [w64, w32, wu8] at *); omega), (by (try simp only [wf, nc, nc'] at *); (try simp (disch := omega) only [w64, w32, wu8] at *); omega), fun c5 => ?_, fun c5 => ?_⟩⟩⟩⟩⟩⟩
  · have h : ¬ k < s.size := (by (try simp only [wf, nc, nc'] at *); (try simp (disch := omega) only [w64, w32, wu8] at *); omega)
    exact hR _ _ _ (by simp [gapE, h, hk]) (by simp [gapF, h])
  · have h : k < s.size := (by (try simp only [wf, nc, nc'] at *); (try simp (disch := omega) only [w64, w32, wu8] at *); omega)
    have : blankB (btF s k) = true := by ((try simp only [wf, nc, nc'] at *); (try simp (disch := omega) only [w64, w32, wu8] at *)); rw [← hb]; simp [blankB, c1]
    exact hR _ _ _ (by simp only [gapE, h, this, if_true]; ((try simp only [wf, nc, nc'] at *); (try simp (disch := omega) only [w64, w32, wu8] at *)); omega) (by simp [gapF, this])
  · have h : k < s.size := (by (try simp only [wf, nc, nc'] at *); (try simp (disch := omega) only [w64, w32, wu8] at *); omega)
    have : blankB (btF s k) = true := by ((try simp only [wf, nc, nc'] at *); (try simp (disch := omega) only [w64, w32, wu8] at *)); rw [← hb]; simp [blankB, c2]
    exact hR _ _ _ (by simp only [gapE, h, this, if_true]; ((try simp only [wf, nc, nc'] at *); (try simp (disch := omega) only [w64, w32, wu8] at *)); omega) (by simp [gapF, this])
  · have h : k < s.size := (by (try simp only [wf, nc, nc'] at *); (try simp (disch := omega) only [w64, w32, wu8] at *); omega)
    have : blankB (btF s k) = true := by ((try simp only [wf, nc, nc'] at *); (try simp (disch := omega) only [w64, w32, wu8] at *)); rw [← hb]; simp [blankB, c3]
    exact hR _ _ _ (by simp only [gapE, h, this, if_true]; ((try simp only [wf, nc, nc'] at *); (try simp (disch := omega) only [w64, w32, wu8] at *)); omega) (by simp [gapF, this])
  · have h : k < s.size := (by (try simp only [wf, nc, nc'] at *); (try simp (disch := omega) only [w64, w32, wu8] at *); omega)
    have : blankB (btF s k) = true := by ((try simp only [wf, nc, nc'] at *); (try simp (disch := omega) only [w64, w32, wu8] at *)); rw [← hb]; simp [blankB, c4]
    exact hR _ _ _ (by simp only [gapE, h, this, if_true]; ((try simp only [wf, nc, nc'] at *); (try simp (disch := omega) only [w64, w32, wu8] at *)); omega) (by simp [gapF, this])
  · have h : k < s.size := (by (try simp only [wf, nc, nc'] at *); (try simp (disch := omega) only [w64, w32, wu8] at *); omega)
    have nb : blankB (btF s k) = false := by ((try simp only [wf, nc, nc'] at *); (try simp (disch := omega) only [w64, w32, wu8] at *)); rw [← hb]; simp [blankB, c1, c2, c3, c4]
    refine (f37 s _ (by (try simp only [wf, nc, nc'] at *); (try simp (disch := omega) only [w64, w32, wu8] at *); omega)).call ?_
    rintro _ ⟨b, hb2, rfl⟩
    (cbv; try simp only [wp, getL, takeL, dropL, TK.isAgg, reduceIte])
    replace hb2 : b = (if k + 1 < s.size then btF s ((k : Int) + 1) else 0) := by rw [hb2]; apply hat; ((try simp only [wf, nc, nc'] at *); (try simp (disch := omega) only [w64, w32, wu8] at *)); omega
    have h45 : btF s k = 45 := by ((try simp only [wf, nc, nc'] at *); (try simp (disch := omega) only [w64, w32, wu8] at *)); omega
    refine ⟨fun e => ?_, fun e => ⟨(by (try simp only [wf, nc, nc'] at *); (try simp (disch := omega) only [w64, w32, wu8] at *); omega), (by (try simp only [wf, nc, nc'] at *); (try simp (disch := omega) only [w64, w32, wu8] at *); omega), fun c6 => absurd c6 (by (try simp only [wf, nc, nc'] at *); (try simp (disch := omega) only [w64, w32, wu8] at *); omega), fun c6 => ?_⟩⟩
    · have h2 : k + 1 < s.size := by
        by_cases h' : k + 1 < s.size
        · exact h'
        · rw [if_neg h'] at hb2; omega
      have y1 : twoB s k 45 45 = true := by
        rw [if_pos h2] at hb2
        simp [twoB, h2, h45, ← hb2, e]
      have hg : gapE s k = (lineE s k : Nat) := by simp [gapE, h, nb, comB, comE, y1]; omega
      have hf : gapF s k = 0 := by simp [gapF, comE, y1]; omega
      refine loopV (Tf := @T) @tabOk (fun j : Nat => ⟨mk 121 [(0, .d (.str s)), (1, .d (.int .i64 j))], []⟩) (fun j => s.size - j) (fun j => k ≤ j ∧ j ≤ s.size ∧ lineE s j = lineE s k) k ⟨by omega, by omega, rfl⟩ ?_ (fun j => rfl) @fun ⟨_, _, _, _, _, _, _, _, _, _, _, _, _, _, _, _, _, _, _, _, _, _, _, _, _, _, _, _, _, _, _, _, _, _, _, _, _, _, wpa, wfa⟩ j Bk hj hBk => ?_
      · (cbv; try simp only [wf, exD, exL, exT, exB, exA, leLs, leL_d, leL_undef, deq_refl, deq_int, deq_bool, deq_str, and_true, true_and, AObj.iter.injEq, nc, nc']; try simp (disch := omega) only [w64, w32, wu8])
        omega
      (cbv; try simp only [wp, wpa, getL, takeL, dropL, TK.isAgg, reduceIte])
      obtain ⟨j1, j2, j3⟩ := hj
      refine ⟨fun e1 => ⟨(by (try simp only [wf, wfa, nc, nc'] at *); (try simp (disch := omega) only [w64, w32, wu8] at *); omega), (by (try simp only [wf, wfa, nc, nc'] at *); (try simp (disch := omega) only [w64, w32, wu8] at *); omega), fun e2 => ?_, fun e2 => ?_⟩, fun e1 => ?_⟩
      · have e1 : j < s.size := (by (try simp only [wf, wfa, nc, nc'] at *); (try simp (disch := omega) only [w64, w32, wu8] at *); omega)
        have e2 : ¬ btF s j = 10 := by ((try simp only [wf, wfa, nc, nc'] at *); (try simp (disch := omega) only [w64, w32, wu8] at *)); exact e2
        refine hBk (j + 1) _ (by omega) ⟨by omega, by omega, ?_⟩ ?_
        · rw [← j3, lineE, lineE, spanEnd.eq_1 _ _ j, if_pos e1, if_pos (by simp [e2])]
        · (cbv; try simp only [wf, wfa, exD, exL, exT, exB, exA, leLs, leL_d, leL_undef, deq_refl, deq_int, deq_bool, deq_str, and_true, true_and, AObj.iter.injEq, nc, nc']; try simp (disch := omega) only [w64, w32, wu8])
          omega
      · have e1 : j < s.size := (by (try simp only [wf, wfa, nc, nc'] at *); (try simp (disch := omega) only [w64, w32, wu8] at *); omega)
        have e2 : btF s j = 10 := by ((try simp only [wf, wfa, nc, nc'] at *); (try simp (disch := omega) only [w64, w32, wu8] at *)); exact e2
        refine hR _ _ _ ?_ hf.symm
        rw [hg, ← j3, lineE, spanEnd, if_pos e1, if_neg (by simp [e2])]
        ((try simp only [wf, wfa, nc, nc'] at *); (try simp (disch := omega) only [w64, w32, wu8] at *))
      · have e1 : ¬ j < s.size := (by (try simp only [wf, wfa, nc, nc'] at *); (try simp (disch := omega) only [w64, w32, wu8] at *); omega)
        refine hR _ _ _ ?_ hf.symm
        rw [hg, ← j3, lineE, spanEnd, if_neg e1]
        ((try simp only [wf, wfa, nc, nc'] at *); (try simp (disch := omega) only [w64, w32, wu8] at *))
        omega
    · have n1 : twoB s k 45 45 = false := by
        simp only [twoB]
        by_cases h' : k + 1 < s.size
        · rw [if_pos h'] at hb2
          simp [← hb2, e]
        · simp [h']
      have n2 : twoB s k 123 45 = false := by simp [twoB, h45]
      exact hR _ _ _ (by simp [gapE, nb, comB, n1, n2, hk]) (by simp [gapF, comB, n1, n2])
  · have h : k < s.size := (by (try simp only [wf, nc, nc'] at *); (try simp (disch := omega) only [w64, w32, wu8] at *); omega)
    have nb : blankB (btF s k) = false := by ((try simp only [wf, nc, nc'] at *); (try simp (disch := omega) only [w64, w32, wu8] at *)); rw [← hb]; simp [blankB, c1, c2, c3, c4]
    have n45 : ¬ btF s k = 45 := by ((try simp only [wf, nc, nc'] at *); (try simp (disch := omega) only [w64, w32, wu8] at *)); omega
    have n1 : twoB s k 45 45 = false := by simp [twoB, n45]
    refine ⟨(by (try simp only [wf, nc, nc'] at *); (try simp (disch := omega) only [w64, w32, wu8] at *); omega), (by (try simp only [wf, nc, nc'] at *); (try simp (disch := omega) only [w64, w32, wu8] at *); omega), fun c6 => ?_, fun c6 => ?_⟩
    · have h123 : btF s k = 123 := by ((try simp only [wf, nc, nc'] at *); (try simp (disch := omega) only [w64, w32, wu8] at *)); omega
      refine (f37 s _ (by (try simp only [wf, nc, nc'] at *); (try simp (disch := omega) only [w64, w32, wu8] at *); omega)).call ?_
      rintro _ ⟨b, hb2, rfl⟩
      (cbv; try simp only [wp, getL, takeL, dropL, TK.isAgg, reduceIte])
      replace hb2 : b = (if k + 1 < s.size then btF s ((k : Int) + 1) else 0) := by rw [hb2]; apply hat; ((try simp only [wf, nc, nc'] at *); (try simp (disch := omega) only [w64, w32, wu8] at *)); omega
      refine ⟨fun e => ?_, fun e => ?_⟩
      · have h2 : k + 1 < s.size := by
          by_cases h' : k + 1 < s.size
          · exact h'
          · rw [if_neg h'] at hb2; omega
        have y2 : twoB s k 123 45 = true := by
          rw [if_pos h2] at hb2
          simp [twoB, h2, h123, ← hb2, e]
        have hg : gapE s k = if blkE s k 0 < 0 then (k : Int) else blkE s k 0 := by simp [gapE, h, nb, comB, comE, n1, y2]
        have hf : gapF s k = if blkE s k 0 < 0 then 10 else 0 := by simp [gapF, comB, comE, n1, y2, h, nb]
        refine loopV (Tf := @T) @tabOk (fun q : Nat × Nat => ⟨mk 121 [(0, .d (.str s)), (1, .d (.int .i64 i)), (6, .d (.int .i64 q.2)), (7, .d (.int .i64 q.1))], []⟩) (fun q => s.size - q.1) (fun q => q.1 ≤ s.size ∧ q.2 ≤ q.1 ∧ (if q.1 = k then q.2 = 0 else 1 ≤ q.2) ∧ k ≤ q.1 ∧ blkE s q.1 q.2 = blkE s k 0) (k, 0) ⟨by omega, by omega, by simp, by omega, rfl⟩ ?_ (fun q => rfl) @fun ⟨_, _, _, _, _, _, _, _, _, _, _, _, _, _, _, _, _, _, _, _, _, _, _, _, _, _, _, _, _, _, _, _, _, _, _, _, _, _, wpa, wfa⟩ ⟨j, d⟩ Bk hi hBk => ?_
        · (cbv; try simp only [wf, exD, exL, exT, exB, exA, leLs, leL_d, leL_undef, deq_refl, deq_int, deq_bool, deq_str, and_true, true_and, AObj.iter.injEq, nc, nc']; try simp (disch := omega) only [w64, w32, wu8])
          simp [hk]
        (cbv; try simp only [wp, wpa, getL, takeL, dropL, TK.isAgg, reduceIte])
        obtain ⟨q1, q2, q3, q4, q5⟩ := hi
        dsimp only at q1 q2 q3 q4 q5
        have hu := blkE.eq_1 s j d
        have two : ∀ x y : Int, j + 1 < s.size → btF s j = x → btF s ((j : Int) + 1) = y → twoB s j x y = true := fun x y h a b => by simp [twoB, h, a, b]
        have one1 : ∀ x y : Int, ¬ btF s j = x → twoB s j x y = false := fun x y a => by simp [twoB, a]
        have one2 : ∀ x y : Int, ¬ btF s ((j : Int) + 1) = y → twoB s j x y = false := fun x y a => by simp [twoB, a]
        have DD0 : twoB s j 123 45 = false → 1 ≤ d := fun h0 => by
          by_cases e : j = k
          · rw [e, y2] at h0; cases h0
          · rw [if_neg e] at q3; exact q3
        have DD : j + 1 < s.size → twoB s j 123 45 = false → twoB s j 45 125 = false → blkE s (j + 1) d = blkE s k 0 := fun h a b => by
          rw [← q5, hu]; simp [h, a, b]
        have AA : j + 1 < s.size → twoB s j 123 45 = true → blkE s (j + 2) (d + 1) = blkE s k 0 := fun h a => by
          rw [← q5, hu]; simp [h, a]
        have BB : j + 1 < s.size → twoB s j 123 45 = false → twoB s j 45 125 = true → (d ≤ 1 → blkE s k 0 = j + 2) ∧ (1 < d → blkE s (j + 2) (d - 1) = blkE s k 0) := fun h a b => by
          rw [← q5, hu]
          simp only [if_pos h, a, b, Bool.false_eq_true, if_false, if_true]
          exact ⟨fun h => by rw [if_pos h], fun h => by rw [if_neg (by omega)]⟩
        obtain ⟨d2, hd2⟩ : ∃ d2, d2 = d - 1 := ⟨_, rfl⟩
        have step : ∀ d', j + 1 < s.size → twoB s j 123 45 = false → d' = d → (if j + 1 = k then d' = 0 else 1 ≤ d') := fun d' h a b => by rw [if_neg (by omega), b]; exact DD0 a
        refine ⟨fun e1 => ?_, fun e1 => ?_⟩
        · have h3 : j + 1 < s.size := (by (try simp only [wf, wfa, nc, nc'] at *); (try simp (disch := omega) only [w64, w32, wu8] at *); omega)
          refine ⟨(by (try simp only [wf, wfa, nc, nc'] at *); (try simp (disch := omega) only [w64, w32, wu8] at *); omega), (by (try simp only [wf, wfa, nc, nc'] at *); (try simp (disch := omega) only [w64, w32, wu8] at *); omega), fun e2 => ⟨(by (try simp only [wf, wfa, nc, nc'] at *); (try simp (disch := omega) only [w64, w32, wu8] at *); omega), (by (try simp only [wf, wfa, nc, nc'] at *); (try simp (disch := omega) only [w64, w32, wu8] at *); omega), fun e3 => ?_, fun e3 => ⟨(by (try simp only [wf, wfa, nc, nc'] at *); (try simp (disch := omega) only [w64, w32, wu8] at *); omega), (by (try simp only [wf, wfa, nc, nc'] at *); (try simp (disch := omega) only [w64, w32, wu8] at *); omega), fun e4 => absurd e4 (by (try simp only [wf, wfa, nc, nc'] at *); (try simp (disch := omega) only [w64, w32, wu8] at *); omega), fun e4 => ?_⟩⟩, fun e2 => ⟨(by (try simp only [wf, wfa, nc, nc'] at *); (try simp (disch := omega) only [w64, w32, wu8] at *); omega), (by (try simp only [wf, wfa, nc, nc'] at *); (try simp (disch := omega) only [w64, w32, wu8] at *); omega), fun e3 => ⟨(by (try simp only [wf, wfa, nc, nc'] at *); (try simp (disch := omega) only [w64, w32, wu8] at *); omega), (by (try simp only [wf, wfa, nc, nc'] at *); (try simp (disch := omega) only [w64, w32, wu8] at *); omega), fun e4 => ⟨fun e5 => ?_, fun e5 => ?_⟩, fun e4 => ?_⟩, fun e3 => ?_⟩⟩
          · have t1 : twoB s j 123 45 = true := two _ _ h3 (by ((try simp only [wf, wfa, nc, nc'] at *); (try simp (disch := omega) only [w64, w32, wu8] at *)); exact e2) (by ((try simp only [wf, wfa, nc, nc'] at *); (try simp (disch := omega) only [w64, w32, wu8] at *)); exact e3)
            refine hBk (j + 2, d + 1) _ (by dsimp only; omega) ⟨by dsimp only; omega, by dsimp only; omega, by dsimp only; rw [if_neg (by omega)]; omega, by dsimp only; omega, AA h3 t1⟩ ?_
            (cbv; try simp only [wf, wfa, exD, exL, exT, exB, exA, leLs, leL_d, leL_undef, deq_refl, deq_int, deq_bool, deq_str, and_true, true_and, AObj.iter.injEq, nc, nc']; try simp (disch := omega) only [w64, w32, wu8])
            omega
          · have t1 : twoB s j 123 45 = false := one2 _ _ (by ((try simp only [wf, wfa, nc, nc'] at *); (try simp (disch := omega) only [w64, w32, wu8] at *)); exact e3)
            have t2 : twoB s j 45 125 = false := one1 _ _ (by ((try simp only [wf, wfa, nc, nc'] at *); (try simp (disch := omega) only [w64, w32, wu8] at *)); exact e4)
            refine hBk (j + 1, d) _ (by dsimp only; omega) ⟨by dsimp only; omega, by dsimp only; omega, step d h3 t1 rfl, by dsimp only; omega, DD h3 t1 t2⟩ ?_
            (cbv; try simp only [wf, wfa, exD, exL, exT, exB, exA, leLs, leL_d, leL_undef, deq_refl, deq_int, deq_bool, deq_str, and_true, true_and, AObj.iter.injEq, nc, nc']; try simp (disch := omega) only [w64, w32, wu8])
            omega
          · have t1 : twoB s j 123 45 = false := one1 _ _ (by ((try simp only [wf, wfa, nc, nc'] at *); (try simp (disch := omega) only [w64, w32, wu8] at *)); exact e2)
            have t2 : twoB s j 45 125 = true := two _ _ h3 (by ((try simp only [wf, wfa, nc, nc'] at *); (try simp (disch := omega) only [w64, w32, wu8] at *)); exact e3) (by ((try simp only [wf, wfa, nc, nc'] at *); (try simp (disch := omega) only [w64, w32, wu8] at *)); exact e4)
            have hd := DD0 t1
            have := (BB h3 t1 t2).1 (by (try simp only [wf, wfa, nc, nc'] at *); (try simp (disch := omega) only [w64, w32, wu8] at *); omega)
            refine hR _ _ _ ?_ (by rw [hf, if_neg (by omega)])
            rw [hg, if_neg (by omega), this]
            ((try simp only [wf, wfa, nc, nc'] at *); (try simp (disch := omega) only [w64, w32, wu8] at *))
          · have t1 : twoB s j 123 45 = false := one1 _ _ (by ((try simp only [wf, wfa, nc, nc'] at *); (try simp (disch := omega) only [w64, w32, wu8] at *)); exact e2)
            have t2 : twoB s j 45 125 = true := two _ _ h3 (by ((try simp only [wf, wfa, nc, nc'] at *); (try simp (disch := omega) only [w64, w32, wu8] at *)); exact e3) (by ((try simp only [wf, wfa, nc, nc'] at *); (try simp (disch := omega) only [w64, w32, wu8] at *)); exact e4)
            have hd := DD0 t1
            have hd3 : 1 < d := (by (try simp only [wf, wfa, nc, nc'] at *); (try simp (disch := omega) only [w64, w32, wu8] at *); omega)
            have := (BB h3 t1 t2).2 hd3
            rw [← hd2] at this
            refine hBk (j + 2, d2) _ (by dsimp only; omega) ⟨by dsimp only; omega, by dsimp only; omega, by dsimp only; rw [if_neg (by omega)]; omega, by dsimp only; omega, this⟩ ?_
            (cbv; try simp only [wf, wfa, exD, exL, exT, exB, exA, leLs, leL_d, leL_undef, deq_refl, deq_int, deq_bool, deq_str, and_true, true_and, AObj.iter.injEq, nc, nc']; try simp (disch := omega) only [w64, w32, wu8])
            omega
          · have t1 : twoB s j 123 45 = false := one1 _ _ (by ((try simp only [wf, wfa, nc, nc'] at *); (try simp (disch := omega) only [w64, w32, wu8] at *)); exact e2)
            have t2 : twoB s j 45 125 = false := one2 _ _ (by ((try simp only [wf, wfa, nc, nc'] at *); (try simp (disch := omega) only [w64, w32, wu8] at *)); exact e4)
            refine hBk (j + 1, d) _ (by dsimp only; omega) ⟨by dsimp only; omega, by dsimp only; omega, step d h3 t1 rfl, by dsimp only; omega, DD h3 t1 t2⟩ ?_
            (cbv; try simp only [wf, wfa, exD, exL, exT, exB, exA, leLs, leL_d, leL_undef, deq_refl, deq_int, deq_bool, deq_str, and_true, true_and, AObj.iter.injEq, nc, nc']; try simp (disch := omega) only [w64, w32, wu8])
            omega
          · have t1 : twoB s j 123 45 = false := one1 _ _ (by ((try simp only [wf, wfa, nc, nc'] at *); (try simp (disch := omega) only [w64, w32, wu8] at *)); exact e2)
            have t2 : twoB s j 45 125 = false := one1 _ _ (by ((try simp only [wf, wfa, nc, nc'] at *); (try simp (disch := omega) only [w64, w32, wu8] at *)); exact e3)
            refine hBk (j + 1, d) _ (by dsimp only; omega) ⟨by dsimp only; omega, by dsimp only; omega, step d h3 t1 rfl, by dsimp only; omega, DD h3 t1 t2⟩ ?_
            (cbv; try simp only [wf, wfa, exD, exL, exT, exB, exA, leLs, leL_d, leL_undef, deq_refl, deq_int, deq_bool, deq_str, and_true, true_and, AObj.iter.injEq, nc, nc']; try simp (disch := omega) only [w64, w32, wu8])
            omega
        · have h3 : ¬ j + 1 < s.size := (by (try simp only [wf, wfa, nc, nc'] at *); (try simp (disch := omega) only [w64, w32, wu8] at *); omega)
          rw [if_neg h3] at hu
          refine hR _ _ _ ?_ (by rw [hf, ← q5, hu]; rfl)
          rw [hg, ← q5, hu, hk]
          rfl
      · have n2 : twoB s k 123 45 = false := by
          simp only [twoB]
          by_cases h' : k + 1 < s.size
          · rw [if_pos h'] at hb2
            simp [← hb2, e]
          · simp [h']
        exact hR _ _ _ (by simp [gapE, nb, comB, n1, n2, hk]) (by simp [gapF, comB, n1, n2])
    · have n2 : twoB s k 123 45 = false := by
        have : ¬ btF s k = 123 := by ((try simp only [wf, nc, nc'] at *); (try simp (disch := omega) only [w64, w32, wu8] at *)); omega
        simp [twoB, this]
      exact hR _ _ _ (by simp [gapE, nb, comB, n1, n2, hk]) (by simp [gapF, comB, n1, n2])
end Go.VM

namespace Go.VM
open Go.Proofs Go
set_option maxRecDepth 100000
set_option linter.unusedVariables false
set_option linter.unusedSimpArgs false

/-- the number of the digits from a place to another one, no greater than 1,000,000,001 -/
def numF (s : ByteArray) : Nat → Nat → Int → Int
  | _, 0, a => a
  | i, n + 1, a => numF s (i + 1) n (min (10 * a + (btF s i - 48)) 1000000001)

theorem f59 (s : ByteArray) (hd : ∀ i : Nat, i < s.size → digitB (btF s i) = true) (hs : s.size < 2 ^ 40) : VFun (P ()) 59 [.d (.str s)] (fun r => ∃ b : Bool, b = decide (numF s 0 s.size 0 > 1000000000) ∧ r = .d (.bool b)) := by
  refine vfun (Tf := @T) @tabOk Tryd.func59 rfl rfl (Nat.le_of_ble_eq_true rfl) @fun ⟨_, _, _, _, _, _, _, _, _, _, _, _, _, _, _, _, _, _, _, _, _, _, _, _, _, _, _, _, _, _, _, _, _, _, _, _, _, _, wp, wf⟩ R hR => ?_
  cbv
  try simp only [wp, getL, takeL, dropL, TK.isAgg, reduceIte]
  replace hR := fun b H h => hR _ H _ (.d (.bool b)) ⟨b, h, rfl⟩
  refine loopV (Tf := @T) @tabOk (fun q : Nat × Int => ⟨mk 19 [(0, .d (.str s)), (2, .d (.bool false)), (3, .d (.int .i64 q.2)), (7, .itr 0)], [.iter s q.1]⟩) (fun q => s.size - q.1) (fun q => q.1 ≤ s.size ∧ 0 ≤ q.2 ∧ q.2 ≤ 1000000000 ∧ numF s q.1 (s.size - q.1) q.2 = numF s 0 s.size 0) (0, 0) ⟨by omega, by omega, by omega, rfl⟩ ?_ (fun q => rfl) @fun ⟨_, _, _, _, _, _, _, _, _, _, _, _, _, _, _, _, _, _, _, _, _, _, _, _, _, _, _, _, _, _, _, _, _, _, _, _, _, _, wpa, wfa⟩ ⟨p, n⟩ Bk hi hBk => ?_
  · (cbv; try simp only [wf, exD, exL, exT, exB, exA, leLs, leL_d, leL_undef, deq_refl, deq_int, deq_bool, deq_str, and_true, true_and, AObj.iter.injEq, nc, nc']; try simp (disch := omega) only [w64, w32, wu8])
    done
  (cbv; try simp only [wp, wpa, getL, takeL, dropL, TK.isAgg, reduceIte])
  obtain ⟨q1, q2, q3, q4⟩ := hi
  dsimp only at q1 q2 q3 q4
  refine ⟨fun e => ?_, fun e => ?_⟩
  · have hlt : p < s.size := (by (try simp only [wf, wfa, nc, nc'] at *); (try simp (disch := omega) only [w64, w32, wu8] at *); omega)
    have hdp := hd p hlt
    obtain ⟨r1, r2⟩ := rune_p digitB digit_hi s p hlt
    obtain ⟨w1, r3⟩ := r2 hdp
    have hb1 : 48 ≤ btF s p ∧ btF s p ≤ 57 := by simpa [digitB] using hdp
    have hu : numF s p (s.size - p) n = numF s (p + 1) (s.size - (p + 1)) (min (10 * n + (btF s p - 48)) 1000000001) := by
      rw [show s.size - p = s.size - (p + 1) + 1 by omega]
      rfl
    obtain ⟨m, hm⟩ : ∃ m, m = 10 * n + (btF s p - 48) := ⟨_, rfl⟩
    rw [← hm] at hu
    have hv : IntKind.i64.wrap (IntKind.i64.wrap (n * 10) + IntKind.i64.wrap (IntKind.i32.wrap (runeF s p - 48))) = m := by
      rw [r3]
      simp (disch := omega) only [w64, w32]
      omega
    have hbig : ∀ (k i : Nat), numF s i k 1000000001 = 1000000001 ∨ ∃ j : Nat, i ≤ j ∧ j < i + k ∧ ¬ (0 ≤ btF s j - 48) := by
      intro k
      induction k with
      | zero => intro i; exact .inl rfl
      | succ k ih =>
        intro i
        by_cases h0 : 0 ≤ btF s i - 48
        · have e1 : min (10 * 1000000001 + (btF s i - 48)) 1000000001 = 1000000001 := by omega
          rcases ih (i + 1) with h | ⟨j, h1, h2, h3⟩
          · left
            rw [numF, e1]
            exact h
          · exact .inr ⟨j, by omega, by omega, h3⟩
        · exact .inr ⟨i, by omega, by omega, h0⟩
    refine ⟨fun c => ?_, fun c => ?_⟩
    · have c : 1000000000 < m := by rw [← hv]; simp only [wf, wfa, nc, nc'] at c; exact c
      apply hR
      rw [← q4, hu, show min m 1000000001 = 1000000001 by omega]
      rcases hbig (s.size - (p + 1)) (p + 1) with h | ⟨j, h1, h2, h3⟩
      · rw [h]; rfl
      · have := hd j (by omega)
        simp only [nc] at *
        simp [digitB] at this
        omega
    · have c : m ≤ 1000000000 := by rw [← hv]; simp only [wf, wfa, nc, nc'] at c; exact c
      refine hBk (p + 1, m) _ (by dsimp only; omega) ⟨by dsimp only; omega, by dsimp only; omega, c, ?_⟩ ?_
      · dsimp only
        rw [← q4, hu, show min m 1000000001 = m by omega]
      · cbv
        simp only [wf, wfa, exD, deq_int, deq_str, deq_bool, and_true, true_and, AObj.iter.injEq]
        exact ⟨hv, by rw [w1]⟩
  · apply hR
    have : p = s.size := (by (try simp only [wf, wfa, nc, nc'] at *); (try simp (disch := omega) only [w64, w32, wu8] at *); omega)
    subst this
    rw [← q4, show s.size - s.size = 0 by omega]
    simp only [numF]
    exact (decide_eq_false (by omega)).symm
end Go.VM

/-
  DERIVED: THE SHELF's CONTRACTS AT THIS DUMP, IN PLAIN WORDS (tools/lay-plain.mjs out of 'TrydShelf.lean', which tools/lay-shelf.mjs wrote): THE SAME DECLARATIONS UNDER THE SAME NAMES: 'import', 'namespace', 'open', 'def', 'theorem' AND NOTHING ELSE: no command of the shelf's: FOR A HAND-IN. Each laying: the table of numbers ('.._ren') and one theorem, a field a fact of the dump's own or the kernel's comparison; each contract: ONE APPLICATION.
-/
namespace Go.Proofs
open Go.Shelf
def Tryd.lays157_ren : Go.Shelf.Ren := ⟨fun | 157 => 66 | 229 => 71 | 199 => 72 | 261 => 77 | 311 => 80 | 312 => 81 | n => n, fun | 9 => 9 | 31 => 72 | 3 => 3 | 5 => 5 | 4 => 4 | 119 => 90 | 0 => 0 | 40 => 83 | 152 => 94 | 21 => 21 | 154 => 96 | 51 => 97 | 141 => 99 | 196 => 105 | 193 => 102 | 198 => 108 | 49 => 106 | 194 => 103 | 201 => 111 | 226 => 113 | 46 => 93 | 227 => 114 | n => n, fun | 0 => 1 | 6 => 2 | n => n⟩
theorem Tryd.lays157 : Go.Proofs.Lays.n157 Tryd.prog Tryd.lays157_ren := {
  mixed := by kernel_rfl
  f157 := Tryd.func66.trans (congrArg some (by kernel_rfl))
  f199 := Tryd.func72.trans (congrArg some (by kernel_rfl))
  f229 := Tryd.func71.trans (congrArg some (by kernel_rfl))
  f261 := Tryd.func77.trans (congrArg some (by kernel_rfl))
  f311 := Tryd.func80.trans (congrArg some (by kernel_rfl))
  f312 := Tryd.func81.trans (congrArg some (by kernel_rfl))
  t0 := Tryd.underlying0
  a0 := Tryd.isAgg0
  z0 := Tryd.sizeOf0
  v0 := Tryd.zeroValue0
  t3 := Tryd.underlying3
  a3 := Tryd.isAgg3
  z3 := Tryd.sizeOf3
  v3 := Tryd.zeroValue3
  t4 := Tryd.underlying4
  a4 := Tryd.isAgg4
  z4 := Tryd.sizeOf4
  v4 := Tryd.zeroValue4
  t5 := Tryd.underlying5
  a5 := Tryd.isAgg5
  z5 := Tryd.sizeOf5
  v5 := Tryd.zeroValue5
  t9 := Tryd.underlying9
  a9 := Tryd.isAgg9
  z9 := Tryd.sizeOf9
  v9 := Tryd.zeroValue9
  t21 := Tryd.underlying21
  a21 := Tryd.isAgg21
  z21 := Tryd.sizeOf21
  v21 := Tryd.zeroValue21
  t31 := Tryd.underlying72
  a31 := Tryd.isAgg72
  z31 := Tryd.sizeOf72
  v31 := Tryd.zeroValue72
  t40 := Tryd.underlying83
  a40 := Tryd.isAgg83
  z40 := Tryd.sizeOf83
  v40 := Tryd.zeroValue83
  t46 := Tryd.underlying93
  a46 := Tryd.isAgg93
  z46 := Tryd.sizeOf93
  v46 := Tryd.zeroValue93
  t49 := Tryd.underlying106
  a49 := Tryd.isAgg106
  z49 := Tryd.sizeOf106
  v49 := Tryd.zeroValue106
  t51 := Tryd.underlying97
  a51 := Tryd.isAgg97
  z51 := Tryd.sizeOf97
  v51 := Tryd.zeroValue97
  t119 := Tryd.underlying90
  a119 := Tryd.isAgg90
  z119 := Tryd.sizeOf90
  t141 := Tryd.underlying99
  a141 := Tryd.isAgg99
  z141 := Tryd.sizeOf99
  v141 := Tryd.zeroValue99
  t152 := Tryd.underlying94
  a152 := Tryd.isAgg94
  z152 := Tryd.sizeOf94
  v152 := Tryd.zeroValue94
  t154 := Tryd.underlying96
  a154 := Tryd.isAgg96
  z154 := Tryd.sizeOf96
  v154 := Tryd.zeroValue96
  t193 := Tryd.underlying102
  a193 := Tryd.isAgg102
  z193 := Tryd.sizeOf102
  v193 := Tryd.zeroValue102
  t194 := Tryd.underlying103
  a194 := Tryd.isAgg103
  z194 := Tryd.sizeOf103
  v194 := Tryd.zeroValue103
  t196 := Tryd.underlying105
  a196 := Tryd.isAgg105
  z196 := Tryd.sizeOf105
  v196 := Tryd.zeroValue105
  t198 := Tryd.underlying108
  a198 := Tryd.isAgg108
  z198 := Tryd.sizeOf108
  v198 := Tryd.zeroValue108
  t201 := Tryd.underlying111
  a201 := Tryd.isAgg111
  z201 := Tryd.sizeOf111
  v201 := Tryd.zeroValue111
  t226 := Tryd.underlying113
  a226 := Tryd.isAgg113
  z226 := Tryd.sizeOf113
  v226 := Tryd.zeroValue113
  t227 := Tryd.underlying114
  a227 := Tryd.isAgg114
  z227 := Tryd.sizeOf114
  v227 := Tryd.zeroValue114
  g0 := by kernel_rfl
  g6 := by kernel_rfl }
end Go.Proofs

namespace Go.VM
open Go.Proofs Go
set_option maxRecDepth 100000
set_option linter.unusedVariables false
set_option linter.unusedSimpArgs false

theorem vfun_strs {Q : Program} {K : FuncId} {s : ByteArray} {L : List ByteArray} {t : TypeId}
    (h : ∀ w : World, (∀ b k v, Glb.G b k v → w.cell? ⟨b, k, none⟩ = some v) → Calls Q K #[.string s] w fun e w' => e = .returned (.slice (some ⟨w.heap.size, 0, none⟩) L.length L.length) ∧ w' = w.alloc (.cells (L.map Value.string).toArray t)) :
    VFun Q K [.d (.str s)] (fun r => r = .d (.sl L.length 1 (strsG (nthS L)))) := by
  refine Ops.exists_one.elim fun inst => ?_
  intro H lim B ι I w vs hrel hargs
  obtain ⟨hl, hk⟩ := hargs
  match vs, hl with
  | [a], _ =>
    have h0 := hk 0 (by simp)
    simp only [List.getD_cons_zero] at h0
    cases h0 with | d _ _ h0 =>
    cases h0
    refine (h w fun b k v hg => (hrel.glob b k v hg).2).mono ?_
    rintro e w' ⟨rfl, rfl⟩
    have hsz : w.heap.size < (w.alloc (.cells (L.map Value.string).toArray t)).heap.size := (Array.getElem?_eq_some_iff.1 (heap_alloc_new w (.cells (L.map Value.string).toArray t))).1
    obtain ⟨g1, g2⟩ := hrel.grow (w' := w.alloc (.cells (L.map Value.string).toArray t)) (J := fun b k => I b k ∨ b = w.heap.size) (Below.new w _ (fun _ h => h)) (fun b k h => .inl h) (fun b k hb h => h.resolve_right (by omega)) (fun b k h => by
      rcases h with h | h
      · have := hrel.imm b k h; omega
      · omega)
    refine ⟨_, _, H, ι, _, rfl, ⟨rfl, rfl⟩, g1, .d _ _ ?_, g2⟩
    refine .sl _ 0 _ _ _ _ (fun i j => .string (nthS L i)) (Nat.le_refl _) (fun i j hi hj => ⟨.inr rfl, ?_⟩) (fun i j hi hj => .str _)
    have hj0 : j = 0 := by omega
    subst hj0
    unfold World.cell?
    simp only [heap_alloc_new]
    simp [nthS, List.getD_eq_getElem?_getD, List.getElem?_eq_getElem hi]

theorem nth_all {L : List ByteArray} (n : Nat) (h : L.length = n) : (.sl L.length 1 (strsG (nthS L)) : D) = .sl n 1 (strsG (nthS L)) := by rw [h]

theorem f66 (s : ByteArray) (L : List ByteArray) (hL : (Lib.fields s.data.toList).map (fun l => (⟨l.toArray⟩ : ByteArray)) = L) (hs : s.size < 4294967281) (ha : ∀ (j : Nat) b, s.data.toList[j]? = some b → b.toNat < 128) :
    VFun (P ()) 66 [.d (.str s)] (fun r => r = .d (.sl L.length 1 (strsG (nthS L)))) := by
  refine vfun_strs (t := 9) fun w hg => ?_
  have := Any.strings_Fields_core Tryd.lays157 (by kernel_rfl) s w hs ha (fun c hc => hg 1 c _ ⟨rfl, hc, rfl⟩)
  refine this.mono ?_
  rintro e w' ⟨rfl, rfl⟩
  subst hL
  refine ⟨by simp, ?_⟩
  rw [List.map_map]
  rfl
end Go.VM

namespace Go.VM
open Go.Proofs Go
set_option maxRecDepth 100000
set_option linter.unusedVariables false
set_option linter.unusedSimpArgs false

theorem small (s : ByteArray) (h : s.data.toList.all (fun b => b.toNat < 128) = true) : ∀ (j : Nat) b, s.data.toList[j]? = some b → b.toNat < 128 := fun j b hb => by
  have := List.all_eq_true.1 h b (List.mem_of_getElem? hb)
  simpa using this

theorem f43 : VFun (P ()) 43 [] (fun r => ∃ f, f = nthS wordsL ∧ r = .d (.sl 24 1 (strsG f))) := by
  refine vfun (Tf := @T) @tabOk Tryd.func43 rfl rfl (Nat.le_of_ble_eq_true rfl) @fun ⟨_, _, _, _, _, _, _, _, _, _, _, _, _, _, _, _, _, _, _, _, _, _, _, _, _, _, _, _, _, _, _, _, _, _, _, _, _, _, wp, wf⟩ R hR => ?_
  cbv
  try simp only [wp, getL, takeL, dropL, TK.isAgg, reduceIte]
  refine (f66 _ wordsL (by kernel_rfl) (by decide) (small _ (by kernel_rfl))).call ?_
  rintro _ rfl
  rw [nth_all 24 rfl]
  generalize hf : nthS wordsL = f
  (cbv; try simp only [wp, getL, takeL, dropL, TK.isAgg, reduceIte])
  exact hR _ _ _ (.d _) ⟨f, hf.symm, rfl⟩
theorem f61 : VFun (P ()) 61 [] (fun r => ∃ f, f = nthS signsL ∧ r = .d (.sl 17 1 (strsG f))) := by
  refine vfun (Tf := @T) @tabOk Tryd.func61 rfl rfl (Nat.le_of_ble_eq_true rfl) @fun ⟨_, _, _, _, _, _, _, _, _, _, _, _, _, _, _, _, _, _, _, _, _, _, _, _, _, _, _, _, _, _, _, _, _, _, _, _, _, _, wp, wf⟩ R hR => ?_
  cbv
  try simp only [wp, getL, takeL, dropL, TK.isAgg, reduceIte]
  refine (f66 _ signsL (by kernel_rfl) (by decide) (small _ (by kernel_rfl))).call ?_
  rintro _ rfl
  rw [nth_all 17 rfl]
  generalize hf : nthS signsL = f
  (cbv; try simp only [wp, getL, takeL, dropL, TK.isAgg, reduceIte])
  exact hR _ _ _ (.d _) ⟨f, hf.symm, rfl⟩

/-- the first place at which f is s, or -1 -/
def idxF (f : Nat → ByteArray) (s : ByteArray) : Nat → Nat → Int
  | _, 0 => -1
  | i, n + 1 => if f i = s then i else idxF f s (i + 1) n
theorem f65 (n : Nat) (f : Nat → ByteArray) (s : ByteArray) (hn : n < 2 ^ 40) : VFun (P ()) 65 [.d (.sl n 1 (strsG f)), .d (.str s)] (fun r => ∃ x, x = idxF f s 0 n ∧ r = .d (.int .i64 x)) := by
  refine vfun (Tf := @T) @tabOk Tryd.func65 rfl rfl (Nat.le_of_ble_eq_true rfl) @fun ⟨_, _, _, _, _, _, _, _, _, _, _, _, _, _, _, _, _, _, _, _, _, _, _, _, _, _, _, _, _, _, _, _, _, _, _, _, _, _, wp, wf⟩ R hR => ?_
  cbv
  try simp only [wp, getL, takeL, dropL, TK.isAgg, reduceIte]
  replace hR := fun b H h => hR _ H _ (.d (.int .i64 b)) ⟨b, h, rfl⟩
  refine loopV (Tf := @T) @tabOk (fun i : Nat => ⟨mk 19 [(0, .d (.sl n 1 (strsG f))), (1, .d (.str s)), (6, .d (.sl n 1 (strsG f))), (7, .d (.int .i64 n)), (8, .d (.int .i64 i))], []⟩) (fun i => n - i) (fun i => i ≤ n ∧ idxF f s i (n - i) = idxF f s 0 n) 0 ⟨by omega, rfl⟩ ?_ (fun i => rfl) @fun ⟨_, _, _, _, _, _, _, _, _, _, _, _, _, _, _, _, _, _, _, _, _, _, _, _, _, _, _, _, _, _, _, _, _, _, _, _, _, _, wpa, wfa⟩ i Bk hi hBk => ?_
  · (cbv; try simp only [wf, exD, exL, exT, exB, exA, leLs, leL_d, leL_undef, deq_refl, deq_int, deq_bool, deq_str, and_true, true_and, AObj.iter.injEq, nc, nc']; try simp (disch := omega) only [w64, w32, wu8])
    rfl
  (cbv; try simp only [wp, wpa, getL, takeL, dropL, TK.isAgg, reduceIte])
  obtain ⟨h1, h2⟩ := hi
  have hu : i < n → idxF f s i (n - i) = if f i = s then (i : Int) else idxF f s (i + 1) (n - (i + 1)) := fun h => by
    rw [show n - i = n - (i + 1) + 1 by omega]
    rfl
  refine ⟨fun e => ⟨(by (try simp only [wf, wfa, nc, nc'] at *); (try simp (disch := omega) only [w64, w32, wu8] at *); omega), (by (try simp only [wf, wfa, nc, nc'] at *); (try simp (disch := omega) only [w64, w32, wu8] at *); omega), fun c => ?_, fun c => ?_⟩, fun e => ?_⟩
  · apply hR
    have hlt : i < n := (by (try simp only [wf, wfa, nc, nc'] at *); (try simp (disch := omega) only [w64, w32, wu8] at *); omega)
    have c : s = f i := by ((try simp only [wf, wfa, nc, nc'] at *); (try simp (disch := omega) only [w64, w32, wu8] at *)); simpa using c
    rw [← h2, hu hlt, if_pos c.symm]
    ((try simp only [wf, wfa, nc, nc'] at *); (try simp (disch := omega) only [w64, w32, wu8] at *))
  · have hlt : i < n := (by (try simp only [wf, wfa, nc, nc'] at *); (try simp (disch := omega) only [w64, w32, wu8] at *); omega)
    have c : ¬ s = f i := by ((try simp only [wf, wfa, nc, nc'] at *); (try simp (disch := omega) only [w64, w32, wu8] at *)); simpa using c
    refine hBk (i + 1) _ (by omega) ⟨by omega, by rw [← h2, hu hlt, if_neg (fun h => c h.symm)]⟩ ?_
    (cbv; try simp only [wf, wfa, exD, exL, exT, exB, exA, leLs, leL_d, leL_undef, deq_refl, deq_int, deq_bool, deq_str, and_true, true_and, AObj.iter.injEq, nc, nc']; try simp (disch := omega) only [w64, w32, wu8])
    omega
  · apply hR
    have hlt : i = n := (by (try simp only [wf, wfa, nc, nc'] at *); (try simp (disch := omega) only [w64, w32, wu8] at *); omega)
    rw [← h2, hlt, Nat.sub_self]
    rfl

theorem idx_among (f : Nat → ByteArray) (s : ByteArray) : ∀ (n i : Nat), (0 ≤ idxF f s i n ∧ amongF f s i n = true) ∨ (idxF f s i n < 0 ∧ amongF f s i n = false)
  | 0, i => .inr ⟨by show (-1 : Int) < 0; decide, rfl⟩
  | n + 1, i => by
    unfold idxF amongF
    by_cases h : f i = s
    · simp [h]
    · simpa [h] using idx_among f s n (i + 1)
theorem f42 (n : Nat) (f : Nat → ByteArray) (s : ByteArray) (hn : n < 2 ^ 40) : VFun (P ()) 42 [.d (.sl n 1 (strsG f)), .d (.str s)] (fun r => ∃ b, b = amongF f s 0 n ∧ r = .d (.bool b)) := by
  refine vfun (Tf := @T) @tabOk Tryd.func42 rfl rfl (Nat.le_of_ble_eq_true rfl) @fun ⟨_, _, _, _, _, _, _, _, _, _, _, _, _, _, _, _, _, _, _, _, _, _, _, _, _, _, _, _, _, _, _, _, _, _, _, _, _, _, wp, wf⟩ R hR => ?_
  cbv
  try simp only [wp, getL, takeL, dropL, TK.isAgg, reduceIte]
  replace hR := fun b H h => hR _ H _ (.d (.bool b)) ⟨b, h, rfl⟩
  refine (f65 n f s hn).call ?_
  rintro _ ⟨x, hx, rfl⟩
  (cbv; try simp only [wp, getL, takeL, dropL, TK.isAgg, reduceIte])
  rcases idx_among f s n 0 with ⟨h1, h2⟩ | ⟨h1, h2⟩
  · exact ⟨fun _ => hR _ _ h2.symm, fun h => absurd h (by omega)⟩
  · exact ⟨fun h => absurd h (by omega), fun _ => hR _ _ h2.symm⟩
theorem f25 (s : ByteArray) : VFun (P ()) 25 [.d (.str s)] (fun r => ∃ b, b = wordB s ∧ r = .d (.bool b)) := by
  refine vfun (Tf := @T) @tabOk Tryd.func25 rfl rfl (Nat.le_of_ble_eq_true rfl) @fun ⟨_, _, _, _, _, _, _, _, _, _, _, _, _, _, _, _, _, _, _, _, _, _, _, _, _, _, _, _, _, _, _, _, _, _, _, _, _, _, wp, wf⟩ R hR => ?_
  cbv
  try simp only [wp, getL, takeL, dropL, TK.isAgg, reduceIte]
  replace hR := fun b H h => hR _ H _ (.d (.bool b)) ⟨b, h, rfl⟩
  refine f43.call ?_
  rintro _ ⟨f, hf, rfl⟩
  (cbv; try simp only [wp, getL, takeL, dropL, TK.isAgg, reduceIte])
  refine (f42 24 f s (by decide)).call ?_
  rintro _ ⟨b, hb, rfl⟩
  (cbv; try simp only [wp, getL, takeL, dropL, TK.isAgg, reduceIte])
  exact hR _ _ (by rw [hb, hf]; rfl)
end Go.VM

namespace Go.VM
open Go.Proofs Go
set_option maxRecDepth 100000
set_option linter.unusedVariables false
set_option linter.unusedSimpArgs false

def hp5 (s : ByteArray) (i : Int) : AHeap := [.box [.d (.str s)], .box [.d (.int .i64 i)], .box [.d (.int .i64 0), .d (.str ⟨#[]⟩), .d (.int .i64 0), .d (.bool false), .d (.int .i64 0)],
  .box [.d (.int .i64 0), .d (.int .i64 0)], .box [.d (.int .i64 0), .d (.str ⟨#[]⟩), .d (.int .i64 i)]]

theorem f62 (s w : ByteArray) (i : Int) (k : Nat) (hk : i = k) (h1 : k ≤ s.size) : VCalls (P ()) 62 [.d (.str w), .ptr 0 0, .ptr 1 0] (hp5 s i) (fun r H => H = hp5 s i ∧ ∃ b, b = preB (s.extract k s.size) w ∧ r = .d (.bool b)) := by
  refine VCalls_of_W (Tf := @T) @tabOk Tryd.func62 rfl (Nat.le_of_ble_eq_true rfl) @fun ⟨_, _, _, _, _, _, _, _, _, _, _, _, _, _, _, _, _, _, _, _, _, _, _, _, _, _, _, _, _, _, _, _, _, _, _, _, _, _, wp, wf⟩ n R hn hR => ?_
  cbv
  try simp only [wp, getL, takeL, dropL, TK.isAgg, reduceIte]
  replace hR := fun b h => hR (.d (.bool b)) _ ⟨rfl, b, h, rfl⟩
  have ht : s.extract i.toNat (s.size : Int).toNat = s.extract k s.size := by rw [hk]; simp
  refine ⟨(by (try simp only [wf, nc, nc'] at *); (try simp (disch := omega) only [w64, w32, wu8] at *); omega), (by (try simp only [wf, nc, nc'] at *); (try simp (disch := omega) only [w64, w32, wu8] at *); omega), ?_⟩
  refine (f63 _ _).call ?_
  rintro _ ⟨b, hb, rfl⟩
  (cbv; try simp only [wp, getL, takeL, dropL, TK.isAgg, reduceIte])
  exact hR _ (by ((try simp only [wf, nc, nc'] at *); (try simp (disch := omega) only [w64, w32, wu8] at *)); rw [hb, ht])
/-- the first of the first n that begins at a place -/
def signF (f : Nat → ByteArray) (t : ByteArray) : Nat → Nat → Int
  | _, 0 => -1
  | j, n + 1 => if preB t (f j) then j else signF f t (j + 1) n
theorem f60 (s : ByteArray) (i : Int) (k : Nat) (f : Nat → ByteArray) (hk : i = k) (h1 : k ≤ s.size) : VCalls (P ()) 60 [.d (.sl 17 1 (strsG f)), .clo 62 [] [.ptr 0 0, .ptr 1 0]] (hp5 s i) (fun r H => H = hp5 s i ∧ ∃ x, x = signF f (s.extract k s.size) 0 17 ∧ r = .d (.int .i64 x)) := by
  refine VCalls_of_W (Tf := @T) @tabOk Tryd.func60 rfl (Nat.le_of_ble_eq_true rfl) @fun ⟨_, _, _, _, _, _, _, _, _, _, _, _, _, _, _, _, _, _, _, _, _, _, _, _, _, _, _, _, _, _, _, _, _, _, _, _, _, _, wp, wf⟩ n R hn hR => ?_
  cbv
  try simp only [wp, getL, takeL, dropL, TK.isAgg, reduceIte]
  replace hR := fun b h => hR (.d (.int .i64 b)) _ ⟨rfl, b, h, rfl⟩
  subst hn
  obtain ⟨t, ht⟩ : ∃ t, t = s.extract k s.size := ⟨_, rfl⟩
  rw [← ht] at hR
  refine loopV (Tf := @T) @tabOk (fun j : Nat => ⟨mk 19 [(0, .d (.sl 17 1 (strsG f))), (1, .clo 62 [] [.ptr 0 0, .ptr 1 0]), (6, .d (.sl 17 1 (strsG f))), (7, .d (.int .i64 17)), (8, .d (.int .i64 j))], hp5 s i⟩) (fun j => 17 - j) (fun j => j ≤ 17 ∧ signF f t j (17 - j) = signF f t 0 17) 0 ⟨by omega, rfl⟩ ?_ (fun i => rfl) @fun ⟨_, _, _, _, _, _, _, _, _, _, _, _, _, _, _, _, _, _, _, _, _, _, _, _, _, _, _, _, _, _, _, _, _, _, _, _, _, _, wpa, wfa⟩ j Bk hj hBk => ?_
  · (cbv; try simp only [wf, exD, exL, exT, exB, exA, leLs, leL_d, leL_undef, deq_refl, deq_int, deq_bool, deq_str, and_true, true_and, AObj.iter.injEq, nc, nc']; try simp (disch := omega) only [w64, w32, wu8])
    exact ⟨rfl, rfl⟩
  (cbv; try simp only [wp, wpa, getL, takeL, dropL, TK.isAgg, reduceIte])
  obtain ⟨j1, j2⟩ := hj
  have hu : j < 17 → signF f t j (17 - j) = if preB t (f j) then (j : Int) else signF f t (j + 1) (17 - (j + 1)) := fun h => by
    rw [show 17 - j = 17 - (j + 1) + 1 by omega]
    rfl
  refine ⟨fun e => ⟨(by (try simp only [wf, wfa, nc, nc'] at *); (try simp (disch := omega) only [w64, w32, wu8] at *); omega), (by (try simp only [wf, wfa, nc, nc'] at *); (try simp (disch := omega) only [w64, w32, wu8] at *); omega), ?_⟩, fun e => ?_⟩
  · have hlt : j < 17 := (by (try simp only [wf, wfa, nc, nc'] at *); (try simp (disch := omega) only [w64, w32, wu8] at *); omega)
    refine CallW.of (f62 s _ i k hk h1) ?_
    rintro _ _ ⟨rfl, b, hb, rfl⟩
    rw [← ht] at hb
    replace hb : b = preB t (f j) := by ((try simp only [wf, wfa, nc, nc'] at *); (try simp (disch := omega) only [w64, w32, wu8] at *)); rw [hb]; simp
    cases b <;> (cbv; try simp only [wp, wpa, getL, takeL, dropL, TK.isAgg, reduceIte])
    · refine hBk (j + 1) _ (by omega) ⟨by omega, by rw [← j2, hu hlt, ← hb]; rfl⟩ ?_
      (cbv; try simp only [wf, wfa, exD, exL, exT, exB, exA, leLs, leL_d, leL_undef, deq_refl, deq_int, deq_bool, deq_str, and_true, true_and, AObj.iter.injEq, nc, nc']; try simp (disch := omega) only [w64, w32, wu8])
      omega
    · apply hR
      rw [← j2, hu hlt, ← hb]
      rfl
  · apply hR
    have : j = 17 := (by (try simp only [wf, wfa, nc, nc'] at *); (try simp (disch := omega) only [w64, w32, wu8] at *); omega)
    rw [← j2, this]
    rfl
end Go.VM
