/- The seat's types, as the logic of abstract states reads them. -/
import Derived.Shelf.Strings.Fields
import Derived.Test.YtcpdnjehmnbheaaDoorProg
import Derived.Test.YtcpdnjehmnbheaaDoorVT
set_option maxRecDepth 100000
namespace Go.VM
def tbl : Tables where
  n := 127
  m := 107
  bare := [0, 1, 49, 67, 74, 78, 82, 83, 84, 85, 86, 87, 88, 89, 90, 91, 92, 93, 94, 95, 96, 97, 98, 99, 100, 101, 102, 103, 104, 105]
  eqs := [(25, [.int, .int]), (32, [.int, .str, .int])]
  tree := (.node (.node (.node (.node (.node (.node (.node .nil
 (some ⟨.func, 1, 8, [.d .nilf]⟩) .nil)
 (some ⟨(.struct [(0, 3), (1, 9), (2, 3)]), 3, 32, [.d (.int .i64 (0)), .d (.str ⟨#[]⟩), .d (.int .i64 (0))]⟩) (.node .nil
 (some ⟨(.struct [(0, 3), (1, 3)]), 2, 16, [.d (.int .i64 (0)), .d (.int .i64 (0))]⟩) .nil))
 (some ⟨(.pointer 116), 1, 8, [.d .nilp]⟩) (.node (.node .nil
 (some ⟨.func, 1, 8, [.d .nilf]⟩) .nil)
 (some ⟨.func, 1, 8, [.d .nilf]⟩) (.node .nil
 (some ⟨(.struct [(0, 97), (1, 97), (2, 97)]), 3, 12, [.d (.int .u32 (0)), .d (.int .u32 (0)), .d (.int .u32 (0))]⟩) .nil)))
 (some ⟨(.struct [(0, 2), (1, 3), (2, 4), (3, 6)]), 4, 24, [.d (.int .i64 (0)), .d (.int .i64 (0)), .d (.bool false), .d (.int .u8 (0))]⟩) (.node (.node (.node .nil
 (some ⟨.func, 1, 8, [.d .nilf]⟩) .nil)
 (some ⟨.func, 1, 8, [.d .nilf]⟩) (.node .nil
 (some ⟨(.slice 111), 1, 24, [.nils]⟩) .nil))
 (some ⟨(.int .i64), 1, 8, [.d (.int .i64 (0))]⟩) (.node (.node .nil
 (some ⟨.func, 1, 8, [.d .nilf]⟩) .nil)
 none (.node .nil
 (some ⟨(.struct [(0, 117)]), 0, 0, []⟩) .nil))))
 (some ⟨(.int .i64), 1, 8, [.d (.int .i64 (0))]⟩) (.node (.node (.node (.node .nil
 (some ⟨(.struct [(0, 32), (3, 4), (4, 3)]), 5, 48, [.d (.int .i64 (0)), .d (.str ⟨#[]⟩), .d (.int .i64 (0)), .d (.bool false), .d (.int .i64 (0))]⟩) .nil)
 none (.node .nil
 (some ⟨(.pointer 105), 1, 8, [.d .nilp]⟩) .nil))
 (some ⟨(.struct [(0, 17)]), 1, 8, [.d .nilp]⟩) (.node (.node .nil
 (some ⟨.func, 1, 8, [.d .nilf]⟩) .nil)
 (some ⟨(.slice 5), 1, 24, [.nils]⟩) (.node .nil
 (some ⟨(.struct [(0, 17), (1, 17), (2, 17), (3, 9)]), 4, 40, [.d .nilp, .d .nilp, .d .nilp, .d (.str ⟨#[]⟩)]⟩) .nil)))
 (some ⟨.string, 1, 16, [.d (.str ⟨#[]⟩)]⟩) (.node (.node (.node .nil
 (some ⟨(.pointer 5), 1, 8, [.d .nilp]⟩) .nil)
 (some ⟨(.slice 54), 1, 24, [.nils]⟩) (.node .nil
 (some ⟨(.struct [(0, 106), (1, 106), (2, 106)]), 3, 6, [.d (.int .u16 (0)), .d (.int .u16 (0)), .d (.int .u16 (0))]⟩) .nil))
 (some ⟨.func, 1, 8, [.d .nilf]⟩) (.node (.node .nil
 (some ⟨.func, 1, 8, [.d .nilf]⟩) .nil)
 (some ⟨.func, 1, 8, [.d .nilf]⟩) (.node .nil
 (some ⟨(.int .i32), 1, 4, [.d (.int .i32 (0))]⟩) .nil)))))
 (some ⟨.func, 1, 8, [.d .nilf]⟩) (.node (.node (.node (.node (.node .nil
 (some ⟨.func, 1, 8, [.d .nilf]⟩) .nil)
 (some ⟨.func, 1, 8, [.d .nilf]⟩) (.node .nil
 (some ⟨(.int .u32), 1, 4, [.d (.int .u32 (0))]⟩) .nil))
 (some ⟨(.pointer 126), 1, 8, [.d .nilp]⟩) (.node (.node .nil
 (some ⟨.func, 1, 8, [.d .nilf]⟩) .nil)
 (some ⟨.func, 1, 8, [.d .nilf]⟩) (.node .nil
 (some ⟨(.pointer 108), 1, 8, [.d .nilp]⟩) .nil)))
 (some ⟨.string, 1, 16, [.d (.str ⟨#[]⟩)]⟩) (.node (.node (.node .nil
 (some ⟨.func, 1, 8, [.d .nilf]⟩) .nil)
 (some ⟨.func, 1, 8, [.d .nilf]⟩) (.node .nil
 (some ⟨(.struct [(0, 102), (1, 103), (2, 3)]), 3, 56, [.nils, .nils, .d (.int .i64 (0))]⟩) .nil))
 (some ⟨(.struct [(0, 23), (1, 3)]), 2, 16, [.d (.int .i64 (0)), .d (.int .i64 (0))]⟩) (.node (.node .nil
 (some ⟨.func, 1, 8, [.d .nilf]⟩) .nil)
 none (.node .nil
 (some ⟨(.int .u8), 1, 1, [.d (.int .u8 (0))]⟩) .nil))))
 (some ⟨(.int .u8), 1, 1, [.d (.int .u8 (0))]⟩) (.node (.node (.node (.node .nil
 (some ⟨.func, 1, 8, [.d .nilf]⟩) .nil)
 (some ⟨.func, 1, 8, [.d .nilf]⟩) (.node .nil
 (some ⟨.func, 1, 8, [.d .nilf]⟩) .nil))
 (some ⟨(.int .i32), 1, 4, [.d (.int .i32 (0))]⟩) (.node (.node .nil
 (some ⟨.func, 1, 8, [.d .nilf]⟩) .nil)
 (some ⟨(.struct [(0, 50), (1, 51)]), 2, 32, [.d .nilp, .nils]⟩) (.node .nil
 (some ⟨(.array 0 16), 0, 0, []⟩) .nil)))
 (some ⟨(.struct [(0, 9), (1, 12)]), 2, 24, [.d (.str ⟨#[]⟩), .d (.int .u64 (0))]⟩) (.node (.node (.node .nil
 (some ⟨.func, 1, 8, [.d .nilf]⟩) .nil)
 (some ⟨.func, 1, 8, [.d .nilf]⟩) (.node .nil
 (some ⟨.func, 1, 8, [.d .nilf]⟩) .nil))
 (some ⟨.func, 1, 8, [.d .nilf]⟩) (.node (.node .nil
 (some ⟨(.int .u64), 1, 8, [.d (.int .u64 (0))]⟩) .nil)
 (some ⟨.func, 1, 8, [.d .nilf]⟩) (.node .nil
 (some ⟨(.struct [(0, 12), (1, 12), (2, 97), (3, 120), (4, 5), (5, 5), (6, 121), (7, 122), (8, 75), (9, 123), (10, 124)]), 11, 48, [.d (.int .u64 (0)), .d (.int .u64 (0)), .d (.int .u32 (0)), .d (.int .u8 (0)), .d (.int .u8 (0)), .d (.int .u8 (0)), .d (.int .u8 (0)), .d .nilf, .d .nilp, .d (.int .i32 (0)), .d (.int .i32 (0))]⟩) .nil))))))
 none (.node (.node (.node (.node (.node (.node .nil
 (some ⟨.func, 1, 8, [.d .nilf]⟩) .nil)
 (some ⟨(.struct [(0, 3), (1, 9), (2, 3)]), 3, 32, [.d (.int .i64 (0)), .d (.str ⟨#[]⟩), .d (.int .i64 (0))]⟩) (.node .nil
 (some ⟨(.struct [(0, 3), (1, 3)]), 2, 16, [.d (.int .i64 (0)), .d (.int .i64 (0))]⟩) .nil))
 (some ⟨(.pointer 119), 1, 8, [.d .nilp]⟩) (.node .nil
 none (.node .nil
 (some ⟨.func, 1, 8, [.d .nilf]⟩) .nil)))
 (some ⟨(.struct [(0, 2), (1, 3), (2, 4), (3, 6)]), 4, 24, [.d (.int .i64 (0)), .d (.int .i64 (0)), .d (.bool false), .d (.int .u8 (0))]⟩) (.node (.node (.node .nil
 (some ⟨(.slice 9), 1, 24, [.nils]⟩) .nil)
 none (.node .nil
 (some ⟨(.struct [(0, 102), (1, 103), (2, 3)]), 3, 56, [.nils, .nils, .d (.int .i64 (0))]⟩) .nil))
 (some ⟨(.struct [(0, 23), (1, 3)]), 2, 16, [.d (.int .i64 (0)), .d (.int .i64 (0))]⟩) (.node .nil
 none (.node .nil
 (some ⟨(.int .u8), 1, 1, [.d (.int .u8 (0))]⟩) .nil))))
 (some ⟨.bool, 1, 1, [.d (.bool false)]⟩) (.node (.node (.node .nil
 (some ⟨.func, 1, 8, [.d .nilf]⟩) .nil)
 none (.node (.node .nil
 (some ⟨.func, 1, 8, [.d .nilf]⟩) .nil)
 (some ⟨(.struct [(0, 50), (1, 51)]), 2, 32, [.d .nilp, .nils]⟩) (.node .nil
 (some ⟨(.struct [(0, 17), (1, 17), (2, 17), (3, 9)]), 4, 40, [.d .nilp, .d .nilp, .d .nilp, .d (.str ⟨#[]⟩)]⟩) .nil)))
 (some ⟨(.int .u64), 1, 8, [.d (.int .u64 (0))]⟩) (.node (.node (.node .nil
 (some ⟨.func, 1, 8, [.d .nilf]⟩) .nil)
 none (.node .nil
 (some ⟨(.struct [(0, 106), (1, 106), (2, 106)]), 3, 6, [.d (.int .u16 (0)), .d (.int .u16 (0)), .d (.int .u16 (0))]⟩) .nil))
 (some ⟨.func, 1, 8, [.d .nilf]⟩) (.node (.node .nil
 (some ⟨.func, 1, 8, [.d .nilf]⟩) .nil)
 (some ⟨.func, 1, 8, [.d .nilf]⟩) (.node .nil
 (some ⟨(.int .i32), 1, 4, [.d (.int .i32 (0))]⟩) .nil)))))
 (some ⟨(.int .i64), 1, 8, [.d (.int .i64 (0))]⟩) (.node (.node (.node (.node (.node .nil
 (some ⟨(.struct [(0, 32), (3, 4), (4, 3)]), 5, 48, [.d (.int .i64 (0)), .d (.str ⟨#[]⟩), .d (.int .i64 (0)), .d (.bool false), .d (.int .i64 (0))]⟩) .nil)
 (some ⟨.func, 1, 8, [.d .nilf]⟩) (.node .nil
 (some ⟨.func, 1, 8, [.d .nilf]⟩) .nil))
 (some ⟨(.struct [(0, 17)]), 1, 8, [.d .nilp]⟩) (.node (.node .nil
 (some ⟨.func, 1, 8, [.d .nilf]⟩) .nil)
 (some ⟨(.pointer 53), 1, 8, [.d .nilp]⟩) (.node .nil
 (some ⟨(.pointer 111), 1, 8, [.d .nilp]⟩) .nil)))
 (some ⟨.string, 1, 16, [.d (.str ⟨#[]⟩)]⟩) (.node (.node (.node .nil
 (some ⟨.func, 1, 8, [.d .nilf]⟩) .nil)
 (some ⟨.func, 1, 8, [.d .nilf]⟩) (.node .nil
 (some ⟨(.int .u16), 1, 2, [.d (.int .u16 (0))]⟩) .nil))
 none (.node (.node .nil
 (some ⟨(.array 256 5), 256, 256, [.d (.int .u8 (0)), .d (.int .u8 (0)), .d (.int .u8 (0)), .d (.int .u8 (0)), .d (.int .u8 (0)), .d (.int .u8 (0)), .d (.int .u8 (0)), .d (.int .u8 (0)), .d (.int .u8 (0)), .d (.int .u8 (0)), .d (.int .u8 (0)), .d (.int .u8 (0)), .d (.int .u8 (0)), .d (.int .u8 (0)), .d (.int .u8 (0)), .d (.int .u8 (0)), .d (.int .u8 (0)), .d (.int .u8 (0)), .d (.int .u8 (0)), .d (.int .u8 (0)), .d (.int .u8 (0)), .d (.int .u8 (0)), .d (.int .u8 (0)), .d (.int .u8 (0)), .d (.int .u8 (0)), .d (.int .u8 (0)), .d (.int .u8 (0)), .d (.int .u8 (0)), .d (.int .u8 (0)), .d (.int .u8 (0)), .d (.int .u8 (0)), .d (.int .u8 (0)), .d (.int .u8 (0)), .d (.int .u8 (0)), .d (.int .u8 (0)), .d (.int .u8 (0)), .d (.int .u8 (0)), .d (.int .u8 (0)), .d (.int .u8 (0)), .d (.int .u8 (0)), .d (.int .u8 (0)), .d (.int .u8 (0)), .d (.int .u8 (0)), .d (.int .u8 (0)), .d (.int .u8 (0)), .d (.int .u8 (0)), .d (.int .u8 (0)), .d (.int .u8 (0)), .d (.int .u8 (0)), .d (.int .u8 (0)), .d (.int .u8 (0)), .d (.int .u8 (0)), .d (.int .u8 (0)), .d (.int .u8 (0)), .d (.int .u8 (0)), .d (.int .u8 (0)), .d (.int .u8 (0)), .d (.int .u8 (0)), .d (.int .u8 (0)), .d (.int .u8 (0)), .d (.int .u8 (0)), .d (.int .u8 (0)), .d (.int .u8 (0)), .d (.int .u8 (0)), .d (.int .u8 (0)), .d (.int .u8 (0)), .d (.int .u8 (0)), .d (.int .u8 (0)), .d (.int .u8 (0)), .d (.int .u8 (0)), .d (.int .u8 (0)), .d (.int .u8 (0)), .d (.int .u8 (0)), .d (.int .u8 (0)), .d (.int .u8 (0)), .d (.int .u8 (0)), .d (.int .u8 (0)), .d (.int .u8 (0)), .d (.int .u8 (0)), .d (.int .u8 (0)), .d (.int .u8 (0)), .d (.int .u8 (0)), .d (.int .u8 (0)), .d (.int .u8 (0)), .d (.int .u8 (0)), .d (.int .u8 (0)), .d (.int .u8 (0)), .d (.int .u8 (0)), .d (.int .u8 (0)), .d (.int .u8 (0)), .d (.int .u8 (0)), .d (.int .u8 (0)), .d (.int .u8 (0)), .d (.int .u8 (0)), .d (.int .u8 (0)), .d (.int .u8 (0)), .d (.int .u8 (0)), .d (.int .u8 (0)), .d (.int .u8 (0)), .d (.int .u8 (0)), .d (.int .u8 (0)), .d (.int .u8 (0)), .d (.int .u8 (0)), .d (.int .u8 (0)), .d (.int .u8 (0)), .d (.int .u8 (0)), .d (.int .u8 (0)), .d (.int .u8 (0)), .d (.int .u8 (0)), .d (.int .u8 (0)), .d (.int .u8 (0)), .d (.int .u8 (0)), .d (.int .u8 (0)), .d (.int .u8 (0)), .d (.int .u8 (0)), .d (.int .u8 (0)), .d (.int .u8 (0)), .d (.int .u8 (0)), .d (.int .u8 (0)), .d (.int .u8 (0)), .d (.int .u8 (0)), .d (.int .u8 (0)), .d (.int .u8 (0)), .d (.int .u8 (0)), .d (.int .u8 (0)), .d (.int .u8 (0)), .d (.int .u8 (0)), .d (.int .u8 (0)), .d (.int .u8 (0)), .d (.int .u8 (0)), .d (.int .u8 (0)), .d (.int .u8 (0)), .d (.int .u8 (0)), .d (.int .u8 (0)), .d (.int .u8 (0)), .d (.int .u8 (0)), .d (.int .u8 (0)), .d (.int .u8 (0)), .d (.int .u8 (0)), .d (.int .u8 (0)), .d (.int .u8 (0)), .d (.int .u8 (0)), .d (.int .u8 (0)), .d (.int .u8 (0)), .d (.int .u8 (0)), .d (.int .u8 (0)), .d (.int .u8 (0)), .d (.int .u8 (0)), .d (.int .u8 (0)), .d (.int .u8 (0)), .d (.int .u8 (0)), .d (.int .u8 (0)), .d (.int .u8 (0)), .d (.int .u8 (0)), .d (.int .u8 (0)), .d (.int .u8 (0)), .d (.int .u8 (0)), .d (.int .u8 (0)), .d (.int .u8 (0)), .d (.int .u8 (0)), .d (.int .u8 (0)), .d (.int .u8 (0)), .d (.int .u8 (0)), .d (.int .u8 (0)), .d (.int .u8 (0)), .d (.int .u8 (0)), .d (.int .u8 (0)), .d (.int .u8 (0)), .d (.int .u8 (0)), .d (.int .u8 (0)), .d (.int .u8 (0)), .d (.int .u8 (0)), .d (.int .u8 (0)), .d (.int .u8 (0)), .d (.int .u8 (0)), .d (.int .u8 (0)), .d (.int .u8 (0)), .d (.int .u8 (0)), .d (.int .u8 (0)), .d (.int .u8 (0)), .d (.int .u8 (0)), .d (.int .u8 (0)), .d (.int .u8 (0)), .d (.int .u8 (0)), .d (.int .u8 (0)), .d (.int .u8 (0)), .d (.int .u8 (0)), .d (.int .u8 (0)), .d (.int .u8 (0)), .d (.int .u8 (0)), .d (.int .u8 (0)), .d (.int .u8 (0)), .d (.int .u8 (0)), .d (.int .u8 (0)), .d (.int .u8 (0)), .d (.int .u8 (0)), .d (.int .u8 (0)), .d (.int .u8 (0)), .d (.int .u8 (0)), .d (.int .u8 (0)), .d (.int .u8 (0)), .d (.int .u8 (0)), .d (.int .u8 (0)), .d (.int .u8 (0)), .d (.int .u8 (0)), .d (.int .u8 (0)), .d (.int .u8 (0)), .d (.int .u8 (0)), .d (.int .u8 (0)), .d (.int .u8 (0)), .d (.int .u8 (0)), .d (.int .u8 (0)), .d (.int .u8 (0)), .d (.int .u8 (0)), .d (.int .u8 (0)), .d (.int .u8 (0)), .d (.int .u8 (0)), .d (.int .u8 (0)), .d (.int .u8 (0)), .d (.int .u8 (0)), .d (.int .u8 (0)), .d (.int .u8 (0)), .d (.int .u8 (0)), .d (.int .u8 (0)), .d (.int .u8 (0)), .d (.int .u8 (0)), .d (.int .u8 (0)), .d (.int .u8 (0)), .d (.int .u8 (0)), .d (.int .u8 (0)), .d (.int .u8 (0)), .d (.int .u8 (0)), .d (.int .u8 (0)), .d (.int .u8 (0)), .d (.int .u8 (0)), .d (.int .u8 (0)), .d (.int .u8 (0)), .d (.int .u8 (0)), .d (.int .u8 (0)), .d (.int .u8 (0)), .d (.int .u8 (0)), .d (.int .u8 (0)), .d (.int .u8 (0)), .d (.int .u8 (0)), .d (.int .u8 (0)), .d (.int .u8 (0)), .d (.int .u8 (0)), .d (.int .u8 (0)), .d (.int .u8 (0)), .d (.int .u8 (0)), .d (.int .u8 (0)), .d (.int .u8 (0)), .d (.int .u8 (0)), .d (.int .u8 (0)), .d (.int .u8 (0)), .d (.int .u8 (0))]⟩) .nil)
 (some ⟨.func, 1, 8, [.d .nilf]⟩) (.node .nil
 (some ⟨.func, 1, 8, [.d .nilf]⟩) .nil))))
 (some ⟨(.int .u8), 1, 1, [.d (.int .u8 (0))]⟩) (.node (.node (.node (.node .nil
 (some ⟨.func, 1, 8, [.d .nilf]⟩) .nil)
 none (.node .nil
 (some ⟨(.slice 108), 1, 24, [.nils]⟩) .nil))
 (some ⟨(.slice 32), 1, 24, [.nils]⟩) (.node (.node .nil
 (some ⟨.func, 1, 8, [.d .nilf]⟩) .nil)
 (some ⟨(.array 2 3), 2, 16, [.d (.int .i64 (0)), .d (.int .i64 (0))]⟩) (.node .nil
 (some ⟨(.struct [(0, 117)]), 0, 0, []⟩) .nil)))
 (some ⟨(.struct [(0, 9), (1, 12)]), 2, 24, [.d (.str ⟨#[]⟩), .d (.int .u64 (0))]⟩) (.node (.node (.node .nil
 (some ⟨.func, 1, 8, [.d .nilf]⟩) .nil)
 none (.node .nil
 (some ⟨(.struct [(0, 97), (1, 97), (2, 97)]), 3, 12, [.d (.int .u32 (0)), .d (.int .u32 (0)), .d (.int .u32 (0))]⟩) .nil))
 (some ⟨.func, 1, 8, [.d .nilf]⟩) (.node (.node .nil
 (some ⟨(.slice 96), 1, 24, [.nils]⟩) .nil)
 (some ⟨.func, 1, 8, [.d .nilf]⟩) (.node .nil
 (some ⟨(.struct [(0, 12), (1, 12), (2, 97), (3, 120), (4, 5), (5, 5), (6, 121), (7, 122), (8, 75), (9, 123), (10, 124)]), 11, 48, [.d (.int .u64 (0)), .d (.int .u64 (0)), .d (.int .u32 (0)), .d (.int .u8 (0)), .d (.int .u8 (0)), .d (.int .u8 (0)), .d (.int .u8 (0)), .d .nilf, .d .nilp, .d (.int .i32 (0)), .d (.int .i32 (0))]⟩) .nil)))))))
/-- the table strings.asciiSpace -/
instance glb : Glb := ⟨fun b k v => b = 1 ∧ k < 256 ∧ v = .int .u8 (if Lib.isSp (UInt8.ofNat k) then 1 else 0)⟩
def T [Ops] : Unit → Tab := fun _ => tbl.tab
noncomputable def P : Unit → Program := fun _ => Go.Proofs.Tryd.prog
theorem tabOk [Ops] : TabOk (P ()) (T ()) := Tables.tabOk (by kernel_rfl)
end Go.VM
