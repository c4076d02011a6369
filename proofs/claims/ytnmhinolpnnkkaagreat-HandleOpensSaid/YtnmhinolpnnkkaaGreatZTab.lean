/- The seat's types: written by wip/tools/table.py. -/
import Derived.Test.YtnmhinolpnnkkaaGreatZamG
import Derived.Test.YtnmhinolpnnkkaaGreatProg
import Derived.KernelRfl
set_option maxRecDepth 100000
namespace Go.AM
open Go.Proofs.Tryz
def ti1 : TI := ⟨.func, 1, 8, [.c .nilFunc]⟩
def ti2 : TI := ⟨(.int .i64), 1, 8, [.c (.int .i64 0)]⟩
def ti3 : TI := ⟨(.int .i64), 1, 8, [.c (.int .i64 0)]⟩
def ti4 : TI := ⟨.bool, 1, 1, [.c (.bool false)]⟩
def ti5 : TI := ⟨(.int .u8), 1, 1, [.c (.int .u8 0)]⟩
def ti9 : TI := ⟨.str, 1, 16, [.c (.string .empty)]⟩
def ti21 : TI := ⟨(.int .i32), 1, 4, [.c (.int .i32 0)]⟩
def ti23 : TI := ⟨(.struct [(0, 3), (1, 3), (2, 3), (3, 3), (4, 3), (5, 3), (6, 3), (7, 3), (8, 3), (9, 3), (10, 3), (11, 3), (12, 3), (13, 3), (14, 3)]), 15, 120, [.c (.int .i64 0), .c (.int .i64 0), .c (.int .i64 0), .c (.int .i64 0), .c (.int .i64 0), .c (.int .i64 0), .c (.int .i64 0), .c (.int .i64 0), .c (.int .i64 0), .c (.int .i64 0), .c (.int .i64 0), .c (.int .i64 0), .c (.int .i64 0), .c (.int .i64 0), .c (.int .i64 0)]⟩
def ti24 : TI := ⟨(.ptr 55), 1, 8, [.c (.pointer none)]⟩
def ti25 : TI := ⟨(.int .i64), 1, 8, [.c (.int .i64 0)]⟩
def ti33 : TI := ⟨(.int .u32), 1, 4, [.c (.int .u32 0)]⟩
def ti35 : TI := ⟨(.struct [(0, 32), (0, 33)]), 1, 4, [.c (.int .u32 0)]⟩
def ti37 : TI := ⟨(.struct [(0, 21), (1, 33)]), 2, 8, [.c (.int .i32 0), .c (.int .u32 0)]⟩
def ti39 : TI := ⟨(.struct [(0, 31), (0, 37)]), 2, 8, [.c (.int .i32 0), .c (.int .u32 0)]⟩
def ti41 : TI := ⟨(.struct [(0, 31), (0, 35), (1, 39)]), 3, 12, [.c (.int .u32 0), .c (.int .i32 0), .c (.int .u32 0)]⟩
def ti42 : TI := ⟨(.slice 155), 1, 24, [.l 2 []]⟩
def ti44 : TI := ⟨(.struct [(0, 3), (1, 42)]), 2, 32, [.c (.int .i64 0), .l 2 []]⟩
def ti45 : TI := ⟨(.slice 114), 1, 24, [.l 44 []]⟩
def ti46 : TI := ⟨(.slice 89), 1, 24, [.l 3 []]⟩
def ti47 : TI := ⟨(.slice 118), 1, 24, [.l 3 []]⟩
def ti48 : TI := ⟨(.slice 3), 1, 24, [.l 1 []]⟩
def ti50 : TI := ⟨(.struct [(0, 23), (15, 44), (17, 45), (18, 46), (19, 47), (20, 48), (21, 3)]), 22, 256, [.c (.int .i64 0), .c (.int .i64 0), .c (.int .i64 0), .c (.int .i64 0), .c (.int .i64 0), .c (.int .i64 0), .c (.int .i64 0), .c (.int .i64 0), .c (.int .i64 0), .c (.int .i64 0), .c (.int .i64 0), .c (.int .i64 0), .c (.int .i64 0), .c (.int .i64 0), .c (.int .i64 0), .c (.int .i64 0), .l 2 [], .l 44 [], .l 3 [], .l 3 [], .l 1 [], .c (.int .i64 0)]⟩
def ti53 : TI := ⟨(.struct [(0, 32), (0, 51), (0, 2)]), 1, 8, [.c (.int .i64 0)]⟩
def ti55 : TI := ⟨(.struct [(0, 23), (15, 41), (18, 39), (20, 50), (42, 35), (43, 53), (44, 53), (45, 53)]), 46, 432, [.c (.int .i64 0), .c (.int .i64 0), .c (.int .i64 0), .c (.int .i64 0), .c (.int .i64 0), .c (.int .i64 0), .c (.int .i64 0), .c (.int .i64 0), .c (.int .i64 0), .c (.int .i64 0), .c (.int .i64 0), .c (.int .i64 0), .c (.int .i64 0), .c (.int .i64 0), .c (.int .i64 0), .c (.int .u32 0), .c (.int .i32 0), .c (.int .u32 0), .c (.int .i32 0), .c (.int .u32 0), .c (.int .i64 0), .c (.int .i64 0), .c (.int .i64 0), .c (.int .i64 0), .c (.int .i64 0), .c (.int .i64 0), .c (.int .i64 0), .c (.int .i64 0), .c (.int .i64 0), .c (.int .i64 0), .c (.int .i64 0), .c (.int .i64 0), .c (.int .i64 0), .c (.int .i64 0), .c (.int .i64 0), .c (.int .i64 0), .l 2 [], .l 44 [], .l 3 [], .l 3 [], .l 1 [], .c (.int .i64 0), .c (.int .u32 0), .c (.int .i64 0), .c (.int .i64 0), .c (.int .i64 0)]⟩
def ti59 : TI := ⟨(.arr 12 5), 12, 12, [.c (.int .u8 0), .c (.int .u8 0), .c (.int .u8 0), .c (.int .u8 0), .c (.int .u8 0), .c (.int .u8 0), .c (.int .u8 0), .c (.int .u8 0), .c (.int .u8 0), .c (.int .u8 0), .c (.int .u8 0), .c (.int .u8 0)]⟩
def ti60 : TI := ⟨(.slice 9), 1, 24, [.l 1 []]⟩
def ti62 : TI := ⟨(.struct [(0, 25), (1, 3), (2, 3), (3, 3), (4, 9), (5, 60)]), 6, 72, [.c (.int .i64 0), .c (.int .i64 0), .c (.int .i64 0), .c (.int .i64 0), .c (.string .empty), .l 1 []]⟩
def ti65 : TI := ⟨(.struct [(0, 3), (1, 3), (2, 3), (3, 3), (4, 9), (5, 48)]), 6, 72, [.c (.int .i64 0), .c (.int .i64 0), .c (.int .i64 0), .c (.int .i64 0), .c (.string .empty), .l 1 []]⟩
def ti67 : TI := ⟨(.struct [(0, 3), (1, 3), (2, 3)]), 3, 24, [.c (.int .i64 0), .c (.int .i64 0), .c (.int .i64 0)]⟩
def ti68 : TI := ⟨(.slice 67), 1, 24, [.l 3 []]⟩
def ti73 : TI := ⟨(.ptr 35), 1, 8, [.c (.pointer none)]⟩
def ti75 : TI := ⟨(.ptr 33), 1, 8, [.c (.pointer none)]⟩
def ti81 : TI := ⟨(.ptr 39), 1, 8, [.c (.pointer none)]⟩
def ti82 : TI := ⟨(.ptr 85), 1, 8, [.c (.pointer none)]⟩
def ti85 : TI := ⟨(.struct [(0, 50)]), 22, 256, [.c (.int .i64 0), .c (.int .i64 0), .c (.int .i64 0), .c (.int .i64 0), .c (.int .i64 0), .c (.int .i64 0), .c (.int .i64 0), .c (.int .i64 0), .c (.int .i64 0), .c (.int .i64 0), .c (.int .i64 0), .c (.int .i64 0), .c (.int .i64 0), .c (.int .i64 0), .c (.int .i64 0), .c (.int .i64 0), .l 2 [], .l 44 [], .l 3 [], .l 3 [], .l 1 [], .c (.int .i64 0)]⟩
def ti87 : TI := ⟨(.ptr 41), 1, 8, [.c (.pointer none)]⟩
def ti89 : TI := ⟨(.struct [(0, 3), (1, 3), (2, 60)]), 3, 40, [.c (.int .i64 0), .c (.int .i64 0), .l 1 []]⟩
def ti90 : TI := ⟨(.ptr 37), 1, 8, [.c (.pointer none)]⟩
def ti92 : TI := ⟨(.ptr 21), 1, 8, [.c (.pointer none)]⟩
def ti98 : TI := ⟨(.slice 209), 1, 24, [.l 3 []]⟩
def ti100 : TI := ⟨(.struct [(0, 98), (1, 3), (2, 4), (3, 3), (4, 4)]), 5, 56, [.l 3 [], .c (.int .i64 0), .c (.bool false), .c (.int .i64 0), .c (.bool false)]⟩
def ti101 : TI := ⟨(.slice 168), 1, 24, [.l 3 []]⟩
def ti103 : TI := ⟨(.struct [(0, 100), (5, 3), (6, 101), (7, 3), (8, 3), (9, 3), (10, 33)]), 11, 120, [.l 3 [], .c (.int .i64 0), .c (.bool false), .c (.int .i64 0), .c (.bool false), .c (.int .i64 0), .l 3 [], .c (.int .i64 0), .c (.int .i64 0), .c (.int .i64 0), .c (.int .u32 0)]⟩
def ti104 : TI := ⟨(.slice 232), 1, 24, [.l 4 []]⟩
def ti105 : TI := ⟨(.slice 162), 1, 24, [.l 3 []]⟩
def ti107 : TI := ⟨(.struct [(0, 3), (1, 103), (12, 104), (13, 105), (14, 3), (15, 3)]), 16, 192, [.c (.int .i64 0), .l 3 [], .c (.int .i64 0), .c (.bool false), .c (.int .i64 0), .c (.bool false), .c (.int .i64 0), .l 3 [], .c (.int .i64 0), .c (.int .i64 0), .c (.int .i64 0), .c (.int .u32 0), .l 4 [], .l 3 [], .c (.int .i64 0), .c (.int .i64 0)]⟩
def ti108 : TI := ⟨(.slice 148), 1, 24, [.l 1 []]⟩
def ti110 : TI := ⟨(.struct [(0, 3), (1, 3), (2, 33), (3, 9)]), 4, 40, [.c (.int .i64 0), .c (.int .i64 0), .c (.int .u32 0), .c (.string .empty)]⟩
def ti112 : TI := ⟨(.struct [(0, 3), (1, 3), (2, 103), (13, 3), (14, 3), (15, 108), (16, 110), (20, 3)]), 21, 224, [.c (.int .i64 0), .c (.int .i64 0), .l 3 [], .c (.int .i64 0), .c (.bool false), .c (.int .i64 0), .c (.bool false), .c (.int .i64 0), .l 3 [], .c (.int .i64 0), .c (.int .i64 0), .c (.int .i64 0), .c (.int .u32 0), .c (.int .i64 0), .c (.int .i64 0), .l 1 [], .c (.int .i64 0), .c (.int .i64 0), .c (.int .u32 0), .c (.string .empty), .c (.int .i64 0)]⟩
def ti114 : TI := ⟨(.struct [(0, 4), (1, 3), (2, 100), (7, 107), (23, 112)]), 44, 488, [.c (.bool false), .c (.int .i64 0), .l 3 [], .c (.int .i64 0), .c (.bool false), .c (.int .i64 0), .c (.bool false), .c (.int .i64 0), .l 3 [], .c (.int .i64 0), .c (.bool false), .c (.int .i64 0), .c (.bool false), .c (.int .i64 0), .l 3 [], .c (.int .i64 0), .c (.int .i64 0), .c (.int .i64 0), .c (.int .u32 0), .l 4 [], .l 3 [], .c (.int .i64 0), .c (.int .i64 0), .c (.int .i64 0), .c (.int .i64 0), .l 3 [], .c (.int .i64 0), .c (.bool false), .c (.int .i64 0), .c (.bool false), .c (.int .i64 0), .l 3 [], .c (.int .i64 0), .c (.int .i64 0), .c (.int .i64 0), .c (.int .u32 0), .c (.int .i64 0), .c (.int .i64 0), .l 1 [], .c (.int .i64 0), .c (.int .i64 0), .c (.int .u32 0), .c (.string .empty), .c (.int .i64 0)]⟩
def ti118 : TI := ⟨(.struct [(0, 3), (1, 25), (2, 3)]), 3, 24, [.c (.int .i64 0), .c (.int .i64 0), .c (.int .i64 0)]⟩
def ti126 : TI := ⟨(.ptr 53), 1, 8, [.c (.pointer none)]⟩
def ti128 : TI := ⟨(.ptr 2), 1, 8, [.c (.pointer none)]⟩
def ti131 : TI := ⟨(.int .u64), 1, 8, [.c (.int .u64 0)]⟩
def ti135 : TI := ⟨(.ptr 114), 1, 8, [.c (.pointer none)]⟩
def ti138 : TI := ⟨(.ptr 3), 1, 8, [.c (.pointer none)]⟩
def ti141 : TI := ⟨(.struct [(0, 3), (1, 3), (2, 9)]), 3, 32, [.c (.int .i64 0), .c (.int .i64 0), .c (.string .empty)]⟩
def ti148 : TI := ⟨(.slice 141), 1, 24, [.l 3 []]⟩
def ti150 : TI := ⟨(.struct [(0, 3), (1, 3), (2, 3), (3, 3), (4, 3), (5, 3), (6, 3), (7, 3), (8, 3), (9, 3), (10, 3), (11, 3), (12, 33), (13, 9), (14, 148)]), 15, 144, [.c (.int .i64 0), .c (.int .i64 0), .c (.int .i64 0), .c (.int .i64 0), .c (.int .i64 0), .c (.int .i64 0), .c (.int .i64 0), .c (.int .i64 0), .c (.int .i64 0), .c (.int .i64 0), .c (.int .i64 0), .c (.int .i64 0), .c (.int .u32 0), .c (.string .empty), .l 3 []]⟩
def ti155 : TI := ⟨(.struct [(0, 3), (1, 3)]), 2, 16, [.c (.int .i64 0), .c (.int .i64 0)]⟩
def ti156 : TI := ⟨(.ptr 100), 1, 8, [.c (.pointer none)]⟩
def ti162 : TI := ⟨(.struct [(0, 3), (1, 9), (2, 3)]), 3, 32, [.c (.int .i64 0), .c (.string .empty), .c (.int .i64 0)]⟩
def ti168 : TI := ⟨(.struct [(0, 3), (1, 3), (2, 3)]), 3, 24, [.c (.int .i64 0), .c (.int .i64 0), .c (.int .i64 0)]⟩
def ti174 : TI := ⟨(.slice 212), 1, 24, [.l 2 []]⟩
def ti180 : TI := ⟨(.ptr 182), 1, 8, [.c (.pointer none)]⟩
def ti182 : TI := ⟨(.struct [(0, 9), (1, 4)]), 2, 24, [.c (.string .empty), .c (.bool false)]⟩
def ti183 : TI := ⟨(.slice 138), 1, 24, [.l 1 []]⟩
def ti184 : TI := ⟨.func, 1, 8, [.c .nilFunc]⟩
def ti188 : TI := ⟨(.slice 150), 1, 24, [.l 15 []]⟩
def ti205 : TI := ⟨.func, 1, 8, [.c .nilFunc]⟩
def ti209 : TI := ⟨(.struct [(0, 9), (1, 9), (2, 3)]), 3, 40, [.c (.string .empty), .c (.string .empty), .c (.int .i64 0)]⟩
def ti212 : TI := ⟨(.struct [(0, 3), (1, 3)]), 2, 16, [.c (.int .i64 0), .c (.int .i64 0)]⟩
def ti215 : TI := ⟨(.ptr 217), 1, 8, [.c (.pointer none)]⟩
def ti217 : TI := ⟨(.struct [(0, 9), (1, 3), (2, 3), (3, 25)]), 4, 40, [.c (.string .empty), .c (.int .i64 0), .c (.int .i64 0), .c (.int .i64 0)]⟩
def ti218 : TI := ⟨.func, 1, 8, [.c .nilFunc]⟩
def ti219 : TI := ⟨.func, 1, 8, [.c .nilFunc]⟩
def ti222 : TI := ⟨(.struct [(0, 141), (3, 3), (4, 3)]), 5, 48, [.c (.int .i64 0), .c (.int .i64 0), .c (.string .empty), .c (.int .i64 0), .c (.int .i64 0)]⟩
def ti232 : TI := ⟨(.struct [(0, 3), (1, 3), (2, 3), (3, 3)]), 4, 32, [.c (.int .i64 0), .c (.int .i64 0), .c (.int .i64 0), .c (.int .i64 0)]⟩
def ti237 : TI := ⟨(.ptr 239), 1, 8, [.c (.pointer none)]⟩
def ti239 : TI := ⟨(.struct [(0, 112), (21, 23), (36, 150)]), 51, 488, [.c (.int .i64 0), .c (.int .i64 0), .l 3 [], .c (.int .i64 0), .c (.bool false), .c (.int .i64 0), .c (.bool false), .c (.int .i64 0), .l 3 [], .c (.int .i64 0), .c (.int .i64 0), .c (.int .i64 0), .c (.int .u32 0), .c (.int .i64 0), .c (.int .i64 0), .l 1 [], .c (.int .i64 0), .c (.int .i64 0), .c (.int .u32 0), .c (.string .empty), .c (.int .i64 0), .c (.int .i64 0), .c (.int .i64 0), .c (.int .i64 0), .c (.int .i64 0), .c (.int .i64 0), .c (.int .i64 0), .c (.int .i64 0), .c (.int .i64 0), .c (.int .i64 0), .c (.int .i64 0), .c (.int .i64 0), .c (.int .i64 0), .c (.int .i64 0), .c (.int .i64 0), .c (.int .i64 0), .c (.int .i64 0), .c (.int .i64 0), .c (.int .i64 0), .c (.int .i64 0), .c (.int .i64 0), .c (.int .i64 0), .c (.int .i64 0), .c (.int .i64 0), .c (.int .i64 0), .c (.int .i64 0), .c (.int .i64 0), .c (.int .i64 0), .c (.int .u32 0), .c (.string .empty), .l 3 []]⟩
def ti246 : TI := ⟨(.ptr 248), 1, 8, [.c (.pointer none)]⟩
def ti248 : TI := ⟨(.struct [(0, 107), (16, 23), (31, 3), (32, 47)]), 33, 344, [.c (.int .i64 0), .l 3 [], .c (.int .i64 0), .c (.bool false), .c (.int .i64 0), .c (.bool false), .c (.int .i64 0), .l 3 [], .c (.int .i64 0), .c (.int .i64 0), .c (.int .i64 0), .c (.int .u32 0), .l 4 [], .l 3 [], .c (.int .i64 0), .c (.int .i64 0), .c (.int .i64 0), .c (.int .i64 0), .c (.int .i64 0), .c (.int .i64 0), .c (.int .i64 0), .c (.int .i64 0), .c (.int .i64 0), .c (.int .i64 0), .c (.int .i64 0), .c (.int .i64 0), .c (.int .i64 0), .c (.int .i64 0), .c (.int .i64 0), .c (.int .i64 0), .c (.int .i64 0), .c (.int .i64 0), .l 3 []]⟩
def ti253 : TI := ⟨(.ptr 209), 1, 8, [.c (.pointer none)]⟩
def ti255 : TI := ⟨.func, 1, 8, [.c .nilFunc]⟩
def ti256 : TI := ⟨(.arr 14 5), 14, 14, [.c (.int .u8 0), .c (.int .u8 0), .c (.int .u8 0), .c (.int .u8 0), .c (.int .u8 0), .c (.int .u8 0), .c (.int .u8 0), .c (.int .u8 0), .c (.int .u8 0), .c (.int .u8 0), .c (.int .u8 0), .c (.int .u8 0), .c (.int .u8 0), .c (.int .u8 0)]⟩
def ti257 : TI := ⟨(.slice 5), 1, 24, [.l 1 []]⟩
def ti258 : TI := ⟨.func, 1, 8, [.c .nilFunc]⟩
def ti264 : TI := ⟨(.ptr 266), 1, 8, [.c (.pointer none)]⟩
def ti266 : TI := ⟨(.struct [(0, 257)]), 1, 24, [.l 1 []]⟩
def ti275 : TI := ⟨.func, 1, 8, [.c .nilFunc]⟩
def ti276 : TI := ⟨(.ptr 281), 1, 8, [.c (.pointer none)]⟩
def ti278 : TI := ⟨(.struct [(0, 3), (1, 48), (2, 3), (3, 33)]), 4, 48, [.c (.int .i64 0), .l 1 [], .c (.int .i64 0), .c (.int .u32 0)]⟩
def ti279 : TI := ⟨.other, 1, 8, [.c (.map none)]⟩
def ti281 : TI := ⟨(.struct [(0, 100), (5, 278), (9, 101), (10, 279)]), 11, 136, [.l 3 [], .c (.int .i64 0), .c (.bool false), .c (.int .i64 0), .c (.bool false), .c (.int .i64 0), .l 1 [], .c (.int .i64 0), .c (.int .u32 0), .l 3 [], .c (.map none)]⟩
def ti289 : TI := ⟨(.arr 16 33), 16, 64, [.c (.int .u32 0), .c (.int .u32 0), .c (.int .u32 0), .c (.int .u32 0), .c (.int .u32 0), .c (.int .u32 0), .c (.int .u32 0), .c (.int .u32 0), .c (.int .u32 0), .c (.int .u32 0), .c (.int .u32 0), .c (.int .u32 0), .c (.int .u32 0), .c (.int .u32 0), .c (.int .u32 0), .c (.int .u32 0)]⟩
def ti295 : TI := ⟨.func, 1, 8, [.c .nilFunc]⟩
def ti303 : TI := ⟨(.ptr 305), 1, 8, [.c (.pointer none)]⟩
def ti305 : TI := ⟨(.struct [(0, 100), (5, 25)]), 6, 64, [.l 3 [], .c (.int .i64 0), .c (.bool false), .c (.int .i64 0), .c (.bool false), .c (.int .i64 0)]⟩
def ti313 : TI := ⟨(.slice 349), 1, 24, [.l 2 []]⟩
def ti316 : TI := ⟨.func, 1, 8, [.c .nilFunc]⟩
def ti320 : TI := ⟨(.slice 316), 1, 24, [.l 1 []]⟩
def ti336 : TI := ⟨(.struct [(0, 316), (1, 60)]), 2, 32, [.c .nilFunc, .l 1 []]⟩
def ti337 : TI := ⟨(.slice 336), 1, 24, [.l 2 []]⟩
def ti341 : TI := ⟨.func, 1, 8, [.c .nilFunc]⟩
def ti344 : TI := ⟨(.ptr 346), 1, 8, [.c (.pointer none)]⟩
def ti346 : TI := ⟨(.struct [(0, 9), (1, 3), (2, 4)]), 3, 32, [.c (.string .empty), .c (.int .i64 0), .c (.bool false)]⟩
def ti349 : TI := ⟨(.struct [(0, 5), (1, 9)]), 2, 24, [.c (.int .u8 0), .c (.string .empty)]⟩
def ti355 : TI := ⟨(.int .u64), 1, 8, [.c (.int .u64 0)]⟩
def ti358 : TI := ⟨.func, 1, 8, [.c .nilFunc]⟩
def ti369 : TI := ⟨.func, 1, 8, [.c .nilFunc]⟩
def tiT : List (Nat × TI) := [(1, ti1), (2, ti2), (3, ti3), (4, ti4), (5, ti5), (9, ti9), (21, ti21), (23, ti23), (24, ti24), (25, ti25), (33, ti33), (35, ti35), (37, ti37), (39, ti39), (41, ti41), (42, ti42), (44, ti44), (45, ti45), (46, ti46), (47, ti47), (48, ti48), (50, ti50), (53, ti53), (55, ti55), (59, ti59), (60, ti60), (62, ti62), (65, ti65), (67, ti67), (68, ti68), (73, ti73), (75, ti75), (81, ti81), (82, ti82), (85, ti85), (87, ti87), (89, ti89), (90, ti90), (92, ti92), (98, ti98), (100, ti100), (101, ti101), (103, ti103), (104, ti104), (105, ti105), (107, ti107), (108, ti108), (110, ti110), (112, ti112), (114, ti114), (118, ti118), (126, ti126), (128, ti128), (131, ti131), (135, ti135), (138, ti138), (141, ti141), (148, ti148), (150, ti150), (155, ti155), (156, ti156), (162, ti162), (168, ti168), (174, ti174), (180, ti180), (182, ti182), (183, ti183), (184, ti184), (188, ti188), (205, ti205), (209, ti209), (212, ti212), (215, ti215), (217, ti217), (218, ti218), (219, ti219), (222, ti222), (232, ti232), (237, ti237), (239, ti239), (246, ti246), (248, ti248), (253, ti253), (255, ti255), (256, ti256), (257, ti257), (258, ti258), (264, ti264), (266, ti266), (275, ti275), (276, ti276), (278, ti278), (279, ti279), (281, ti281), (289, ti289), (295, ti295), (303, ti303), (305, ti305), (313, ti313), (316, ti316), (320, ti320), (336, ti336), (337, ti337), (341, ti341), (344, ti344), (346, ti346), (349, ti349), (355, ti355), (358, ti358), (369, ti369)]
def look : List (Nat × TI) → Nat → TI
  | [], _ => ⟨.other, 0, 0, []⟩
  | (m, e) :: r, n => if n = m then e else look r n
theorem look_ok {P : Program} : ∀ {l : List (Nat × TI)}, (∀ p ∈ l, TOk P p.1 p.2) → ∀ t, (look l t).size ≠ 0 → TOk P t (look l t)
  | [], _, t, h => absurd rfl h
  | (m, e) :: r, hl, t, h => by
    unfold look at *
    split
    · rename_i q; subst q; exact hl (t, e) (by simp)
    · rename_i q; rw [if_neg q] at h; exact look_ok (fun p hp => hl p (by simp [hp])) t h
theorem tok1 : TOk prog 1 ti1 := ⟨by kernel_rfl, by kernel_rfl, by kernel_rfl, by kernel_rfl⟩
theorem tok2 : TOk prog 2 ti2 := ⟨by kernel_rfl, by kernel_rfl, by kernel_rfl, by kernel_rfl⟩
theorem tok3 : TOk prog 3 ti3 := ⟨by kernel_rfl, by kernel_rfl, by kernel_rfl, by kernel_rfl⟩
theorem tok4 : TOk prog 4 ti4 := ⟨by kernel_rfl, by kernel_rfl, by kernel_rfl, by kernel_rfl⟩
theorem tok5 : TOk prog 5 ti5 := ⟨by kernel_rfl, by kernel_rfl, by kernel_rfl, by kernel_rfl⟩
theorem tok9 : TOk prog 9 ti9 := ⟨by kernel_rfl, by kernel_rfl, by kernel_rfl, by kernel_rfl⟩
theorem tok21 : TOk prog 21 ti21 := ⟨by kernel_rfl, by kernel_rfl, by kernel_rfl, by kernel_rfl⟩
theorem tok23 : TOk prog 23 ti23 := ⟨by kernel_rfl, by kernel_rfl, by kernel_rfl, by kernel_rfl⟩
theorem tok24 : TOk prog 24 ti24 := ⟨by kernel_rfl, by kernel_rfl, by kernel_rfl, by kernel_rfl⟩
theorem tok25 : TOk prog 25 ti25 := ⟨by kernel_rfl, by kernel_rfl, by kernel_rfl, by kernel_rfl⟩
theorem tok33 : TOk prog 33 ti33 := ⟨by kernel_rfl, by kernel_rfl, by kernel_rfl, by kernel_rfl⟩
theorem tok35 : TOk prog 35 ti35 := ⟨by kernel_rfl, by kernel_rfl, by kernel_rfl, by kernel_rfl⟩
theorem tok37 : TOk prog 37 ti37 := ⟨by kernel_rfl, by kernel_rfl, by kernel_rfl, by kernel_rfl⟩
theorem tok39 : TOk prog 39 ti39 := ⟨by kernel_rfl, by kernel_rfl, by kernel_rfl, by kernel_rfl⟩
theorem tok41 : TOk prog 41 ti41 := ⟨by kernel_rfl, by kernel_rfl, by kernel_rfl, by kernel_rfl⟩
theorem tok42 : TOk prog 42 ti42 := ⟨by kernel_rfl, by kernel_rfl, by kernel_rfl, by kernel_rfl⟩
theorem tok44 : TOk prog 44 ti44 := ⟨by kernel_rfl, by kernel_rfl, by kernel_rfl, by kernel_rfl⟩
theorem tok45 : TOk prog 45 ti45 := ⟨by kernel_rfl, by kernel_rfl, by kernel_rfl, by kernel_rfl⟩
theorem tok46 : TOk prog 46 ti46 := ⟨by kernel_rfl, by kernel_rfl, by kernel_rfl, by kernel_rfl⟩
theorem tok47 : TOk prog 47 ti47 := ⟨by kernel_rfl, by kernel_rfl, by kernel_rfl, by kernel_rfl⟩
theorem tok48 : TOk prog 48 ti48 := ⟨by kernel_rfl, by kernel_rfl, by kernel_rfl, by kernel_rfl⟩
theorem tok50 : TOk prog 50 ti50 := ⟨by kernel_rfl, by kernel_rfl, by kernel_rfl, by kernel_rfl⟩
theorem tok53 : TOk prog 53 ti53 := ⟨by kernel_rfl, by kernel_rfl, by kernel_rfl, by kernel_rfl⟩
theorem tok55 : TOk prog 55 ti55 := ⟨by kernel_rfl, by kernel_rfl, by kernel_rfl, by kernel_rfl⟩
theorem tok59 : TOk prog 59 ti59 := ⟨by kernel_rfl, by kernel_rfl, by kernel_rfl, by kernel_rfl⟩
theorem tok60 : TOk prog 60 ti60 := ⟨by kernel_rfl, by kernel_rfl, by kernel_rfl, by kernel_rfl⟩
theorem tok62 : TOk prog 62 ti62 := ⟨by kernel_rfl, by kernel_rfl, by kernel_rfl, by kernel_rfl⟩
theorem tok65 : TOk prog 65 ti65 := ⟨by kernel_rfl, by kernel_rfl, by kernel_rfl, by kernel_rfl⟩
theorem tok67 : TOk prog 67 ti67 := ⟨by kernel_rfl, by kernel_rfl, by kernel_rfl, by kernel_rfl⟩
theorem tok68 : TOk prog 68 ti68 := ⟨by kernel_rfl, by kernel_rfl, by kernel_rfl, by kernel_rfl⟩
theorem tok73 : TOk prog 73 ti73 := ⟨by kernel_rfl, by kernel_rfl, by kernel_rfl, by kernel_rfl⟩
theorem tok75 : TOk prog 75 ti75 := ⟨by kernel_rfl, by kernel_rfl, by kernel_rfl, by kernel_rfl⟩
theorem tok81 : TOk prog 81 ti81 := ⟨by kernel_rfl, by kernel_rfl, by kernel_rfl, by kernel_rfl⟩
theorem tok82 : TOk prog 82 ti82 := ⟨by kernel_rfl, by kernel_rfl, by kernel_rfl, by kernel_rfl⟩
theorem tok85 : TOk prog 85 ti85 := ⟨by kernel_rfl, by kernel_rfl, by kernel_rfl, by kernel_rfl⟩
theorem tok87 : TOk prog 87 ti87 := ⟨by kernel_rfl, by kernel_rfl, by kernel_rfl, by kernel_rfl⟩
theorem tok89 : TOk prog 89 ti89 := ⟨by kernel_rfl, by kernel_rfl, by kernel_rfl, by kernel_rfl⟩
theorem tok90 : TOk prog 90 ti90 := ⟨by kernel_rfl, by kernel_rfl, by kernel_rfl, by kernel_rfl⟩
theorem tok92 : TOk prog 92 ti92 := ⟨by kernel_rfl, by kernel_rfl, by kernel_rfl, by kernel_rfl⟩
theorem tok98 : TOk prog 98 ti98 := ⟨by kernel_rfl, by kernel_rfl, by kernel_rfl, by kernel_rfl⟩
theorem tok100 : TOk prog 100 ti100 := ⟨by kernel_rfl, by kernel_rfl, by kernel_rfl, by kernel_rfl⟩
theorem tok101 : TOk prog 101 ti101 := ⟨by kernel_rfl, by kernel_rfl, by kernel_rfl, by kernel_rfl⟩
theorem tok103 : TOk prog 103 ti103 := ⟨by kernel_rfl, by kernel_rfl, by kernel_rfl, by kernel_rfl⟩
theorem tok104 : TOk prog 104 ti104 := ⟨by kernel_rfl, by kernel_rfl, by kernel_rfl, by kernel_rfl⟩
theorem tok105 : TOk prog 105 ti105 := ⟨by kernel_rfl, by kernel_rfl, by kernel_rfl, by kernel_rfl⟩
theorem tok107 : TOk prog 107 ti107 := ⟨by kernel_rfl, by kernel_rfl, by kernel_rfl, by kernel_rfl⟩
theorem tok108 : TOk prog 108 ti108 := ⟨by kernel_rfl, by kernel_rfl, by kernel_rfl, by kernel_rfl⟩
theorem tok110 : TOk prog 110 ti110 := ⟨by kernel_rfl, by kernel_rfl, by kernel_rfl, by kernel_rfl⟩
theorem tok112 : TOk prog 112 ti112 := ⟨by kernel_rfl, by kernel_rfl, by kernel_rfl, by kernel_rfl⟩
theorem tok114 : TOk prog 114 ti114 := ⟨by kernel_rfl, by kernel_rfl, by kernel_rfl, by kernel_rfl⟩
theorem tok118 : TOk prog 118 ti118 := ⟨by kernel_rfl, by kernel_rfl, by kernel_rfl, by kernel_rfl⟩
theorem tok126 : TOk prog 126 ti126 := ⟨by kernel_rfl, by kernel_rfl, by kernel_rfl, by kernel_rfl⟩
theorem tok128 : TOk prog 128 ti128 := ⟨by kernel_rfl, by kernel_rfl, by kernel_rfl, by kernel_rfl⟩
theorem tok131 : TOk prog 131 ti131 := ⟨by kernel_rfl, by kernel_rfl, by kernel_rfl, by kernel_rfl⟩
theorem tok135 : TOk prog 135 ti135 := ⟨by kernel_rfl, by kernel_rfl, by kernel_rfl, by kernel_rfl⟩
theorem tok138 : TOk prog 138 ti138 := ⟨by kernel_rfl, by kernel_rfl, by kernel_rfl, by kernel_rfl⟩
theorem tok141 : TOk prog 141 ti141 := ⟨by kernel_rfl, by kernel_rfl, by kernel_rfl, by kernel_rfl⟩
theorem tok148 : TOk prog 148 ti148 := ⟨by kernel_rfl, by kernel_rfl, by kernel_rfl, by kernel_rfl⟩
theorem tok150 : TOk prog 150 ti150 := ⟨by kernel_rfl, by kernel_rfl, by kernel_rfl, by kernel_rfl⟩
theorem tok155 : TOk prog 155 ti155 := ⟨by kernel_rfl, by kernel_rfl, by kernel_rfl, by kernel_rfl⟩
theorem tok156 : TOk prog 156 ti156 := ⟨by kernel_rfl, by kernel_rfl, by kernel_rfl, by kernel_rfl⟩
theorem tok162 : TOk prog 162 ti162 := ⟨by kernel_rfl, by kernel_rfl, by kernel_rfl, by kernel_rfl⟩
theorem tok168 : TOk prog 168 ti168 := ⟨by kernel_rfl, by kernel_rfl, by kernel_rfl, by kernel_rfl⟩
theorem tok174 : TOk prog 174 ti174 := ⟨by kernel_rfl, by kernel_rfl, by kernel_rfl, by kernel_rfl⟩
theorem tok180 : TOk prog 180 ti180 := ⟨by kernel_rfl, by kernel_rfl, by kernel_rfl, by kernel_rfl⟩
theorem tok182 : TOk prog 182 ti182 := ⟨by kernel_rfl, by kernel_rfl, by kernel_rfl, by kernel_rfl⟩
theorem tok183 : TOk prog 183 ti183 := ⟨by kernel_rfl, by kernel_rfl, by kernel_rfl, by kernel_rfl⟩
theorem tok184 : TOk prog 184 ti184 := ⟨by kernel_rfl, by kernel_rfl, by kernel_rfl, by kernel_rfl⟩
theorem tok188 : TOk prog 188 ti188 := ⟨by kernel_rfl, by kernel_rfl, by kernel_rfl, by kernel_rfl⟩
theorem tok205 : TOk prog 205 ti205 := ⟨by kernel_rfl, by kernel_rfl, by kernel_rfl, by kernel_rfl⟩
theorem tok209 : TOk prog 209 ti209 := ⟨by kernel_rfl, by kernel_rfl, by kernel_rfl, by kernel_rfl⟩
theorem tok212 : TOk prog 212 ti212 := ⟨by kernel_rfl, by kernel_rfl, by kernel_rfl, by kernel_rfl⟩
theorem tok215 : TOk prog 215 ti215 := ⟨by kernel_rfl, by kernel_rfl, by kernel_rfl, by kernel_rfl⟩
theorem tok217 : TOk prog 217 ti217 := ⟨by kernel_rfl, by kernel_rfl, by kernel_rfl, by kernel_rfl⟩
theorem tok218 : TOk prog 218 ti218 := ⟨by kernel_rfl, by kernel_rfl, by kernel_rfl, by kernel_rfl⟩
theorem tok219 : TOk prog 219 ti219 := ⟨by kernel_rfl, by kernel_rfl, by kernel_rfl, by kernel_rfl⟩
theorem tok222 : TOk prog 222 ti222 := ⟨by kernel_rfl, by kernel_rfl, by kernel_rfl, by kernel_rfl⟩
theorem tok232 : TOk prog 232 ti232 := ⟨by kernel_rfl, by kernel_rfl, by kernel_rfl, by kernel_rfl⟩
theorem tok237 : TOk prog 237 ti237 := ⟨by kernel_rfl, by kernel_rfl, by kernel_rfl, by kernel_rfl⟩
theorem tok239 : TOk prog 239 ti239 := ⟨by kernel_rfl, by kernel_rfl, by kernel_rfl, by kernel_rfl⟩
theorem tok246 : TOk prog 246 ti246 := ⟨by kernel_rfl, by kernel_rfl, by kernel_rfl, by kernel_rfl⟩
theorem tok248 : TOk prog 248 ti248 := ⟨by kernel_rfl, by kernel_rfl, by kernel_rfl, by kernel_rfl⟩
theorem tok253 : TOk prog 253 ti253 := ⟨by kernel_rfl, by kernel_rfl, by kernel_rfl, by kernel_rfl⟩
theorem tok255 : TOk prog 255 ti255 := ⟨by kernel_rfl, by kernel_rfl, by kernel_rfl, by kernel_rfl⟩
theorem tok256 : TOk prog 256 ti256 := ⟨by kernel_rfl, by kernel_rfl, by kernel_rfl, by kernel_rfl⟩
theorem tok257 : TOk prog 257 ti257 := ⟨by kernel_rfl, by kernel_rfl, by kernel_rfl, by kernel_rfl⟩
theorem tok258 : TOk prog 258 ti258 := ⟨by kernel_rfl, by kernel_rfl, by kernel_rfl, by kernel_rfl⟩
theorem tok264 : TOk prog 264 ti264 := ⟨by kernel_rfl, by kernel_rfl, by kernel_rfl, by kernel_rfl⟩
theorem tok266 : TOk prog 266 ti266 := ⟨by kernel_rfl, by kernel_rfl, by kernel_rfl, by kernel_rfl⟩
theorem tok275 : TOk prog 275 ti275 := ⟨by kernel_rfl, by kernel_rfl, by kernel_rfl, by kernel_rfl⟩
theorem tok276 : TOk prog 276 ti276 := ⟨by kernel_rfl, by kernel_rfl, by kernel_rfl, by kernel_rfl⟩
theorem tok278 : TOk prog 278 ti278 := ⟨by kernel_rfl, by kernel_rfl, by kernel_rfl, by kernel_rfl⟩
theorem tok279 : TOk prog 279 ti279 := ⟨by kernel_rfl, by kernel_rfl, by kernel_rfl, by kernel_rfl⟩
theorem tok281 : TOk prog 281 ti281 := ⟨by kernel_rfl, by kernel_rfl, by kernel_rfl, by kernel_rfl⟩
theorem tok289 : TOk prog 289 ti289 := ⟨by kernel_rfl, by kernel_rfl, by kernel_rfl, by kernel_rfl⟩
theorem tok295 : TOk prog 295 ti295 := ⟨by kernel_rfl, by kernel_rfl, by kernel_rfl, by kernel_rfl⟩
theorem tok303 : TOk prog 303 ti303 := ⟨by kernel_rfl, by kernel_rfl, by kernel_rfl, by kernel_rfl⟩
theorem tok305 : TOk prog 305 ti305 := ⟨by kernel_rfl, by kernel_rfl, by kernel_rfl, by kernel_rfl⟩
theorem tok313 : TOk prog 313 ti313 := ⟨by kernel_rfl, by kernel_rfl, by kernel_rfl, by kernel_rfl⟩
theorem tok316 : TOk prog 316 ti316 := ⟨by kernel_rfl, by kernel_rfl, by kernel_rfl, by kernel_rfl⟩
theorem tok320 : TOk prog 320 ti320 := ⟨by kernel_rfl, by kernel_rfl, by kernel_rfl, by kernel_rfl⟩
theorem tok336 : TOk prog 336 ti336 := ⟨by kernel_rfl, by kernel_rfl, by kernel_rfl, by kernel_rfl⟩
theorem tok337 : TOk prog 337 ti337 := ⟨by kernel_rfl, by kernel_rfl, by kernel_rfl, by kernel_rfl⟩
theorem tok341 : TOk prog 341 ti341 := ⟨by kernel_rfl, by kernel_rfl, by kernel_rfl, by kernel_rfl⟩
theorem tok344 : TOk prog 344 ti344 := ⟨by kernel_rfl, by kernel_rfl, by kernel_rfl, by kernel_rfl⟩
theorem tok346 : TOk prog 346 ti346 := ⟨by kernel_rfl, by kernel_rfl, by kernel_rfl, by kernel_rfl⟩
theorem tok349 : TOk prog 349 ti349 := ⟨by kernel_rfl, by kernel_rfl, by kernel_rfl, by kernel_rfl⟩
theorem tok355 : TOk prog 355 ti355 := ⟨by kernel_rfl, by kernel_rfl, by kernel_rfl, by kernel_rfl⟩
theorem tok358 : TOk prog 358 ti358 := ⟨by kernel_rfl, by kernel_rfl, by kernel_rfl, by kernel_rfl⟩
theorem tok369 : TOk prog 369 ti369 := ⟨by kernel_rfl, by kernel_rfl, by kernel_rfl, by kernel_rfl⟩
theorem tiT_ok : ∀ p ∈ tiT, TOk prog p.1 p.2 := (List.forall_mem_cons.2 ⟨tok1, (List.forall_mem_cons.2 ⟨tok2, (List.forall_mem_cons.2 ⟨tok3, (List.forall_mem_cons.2 ⟨tok4, (List.forall_mem_cons.2 ⟨tok5, (List.forall_mem_cons.2 ⟨tok9, (List.forall_mem_cons.2 ⟨tok21, (List.forall_mem_cons.2 ⟨tok23, (List.forall_mem_cons.2 ⟨tok24, (List.forall_mem_cons.2 ⟨tok25, (List.forall_mem_cons.2 ⟨tok33, (List.forall_mem_cons.2 ⟨tok35, (List.forall_mem_cons.2 ⟨tok37, (List.forall_mem_cons.2 ⟨tok39, (List.forall_mem_cons.2 ⟨tok41, (List.forall_mem_cons.2 ⟨tok42, (List.forall_mem_cons.2 ⟨tok44, (List.forall_mem_cons.2 ⟨tok45, (List.forall_mem_cons.2 ⟨tok46, (List.forall_mem_cons.2 ⟨tok47, (List.forall_mem_cons.2 ⟨tok48, (List.forall_mem_cons.2 ⟨tok50, (List.forall_mem_cons.2 ⟨tok53, (List.forall_mem_cons.2 ⟨tok55, (List.forall_mem_cons.2 ⟨tok59, (List.forall_mem_cons.2 ⟨tok60, (List.forall_mem_cons.2 ⟨tok62, (List.forall_mem_cons.2 ⟨tok65, (List.forall_mem_cons.2 ⟨tok67, (List.forall_mem_cons.2 ⟨tok68, (List.forall_mem_cons.2 ⟨tok73, (List.forall_mem_cons.2 ⟨tok75, (List.forall_mem_cons.2 ⟨tok81, (List.forall_mem_cons.2 ⟨tok82, (List.forall_mem_cons.2 ⟨tok85, (List.forall_mem_cons.2 ⟨tok87, (List.forall_mem_cons.2 ⟨tok89, (List.forall_mem_cons.2 ⟨tok90, (List.forall_mem_cons.2 ⟨tok92, (List.forall_mem_cons.2 ⟨tok98, (List.forall_mem_cons.2 ⟨tok100, (List.forall_mem_cons.2 ⟨tok101, (List.forall_mem_cons.2 ⟨tok103, (List.forall_mem_cons.2 ⟨tok104, (List.forall_mem_cons.2 ⟨tok105, (List.forall_mem_cons.2 ⟨tok107, (List.forall_mem_cons.2 ⟨tok108, (List.forall_mem_cons.2 ⟨tok110, (List.forall_mem_cons.2 ⟨tok112, (List.forall_mem_cons.2 ⟨tok114, (List.forall_mem_cons.2 ⟨tok118, (List.forall_mem_cons.2 ⟨tok126, (List.forall_mem_cons.2 ⟨tok128, (List.forall_mem_cons.2 ⟨tok131, (List.forall_mem_cons.2 ⟨tok135, (List.forall_mem_cons.2 ⟨tok138, (List.forall_mem_cons.2 ⟨tok141, (List.forall_mem_cons.2 ⟨tok148, (List.forall_mem_cons.2 ⟨tok150, (List.forall_mem_cons.2 ⟨tok155, (List.forall_mem_cons.2 ⟨tok156, (List.forall_mem_cons.2 ⟨tok162, (List.forall_mem_cons.2 ⟨tok168, (List.forall_mem_cons.2 ⟨tok174, (List.forall_mem_cons.2 ⟨tok180, (List.forall_mem_cons.2 ⟨tok182, (List.forall_mem_cons.2 ⟨tok183, (List.forall_mem_cons.2 ⟨tok184, (List.forall_mem_cons.2 ⟨tok188, (List.forall_mem_cons.2 ⟨tok205, (List.forall_mem_cons.2 ⟨tok209, (List.forall_mem_cons.2 ⟨tok212, (List.forall_mem_cons.2 ⟨tok215, (List.forall_mem_cons.2 ⟨tok217, (List.forall_mem_cons.2 ⟨tok218, (List.forall_mem_cons.2 ⟨tok219, (List.forall_mem_cons.2 ⟨tok222, (List.forall_mem_cons.2 ⟨tok232, (List.forall_mem_cons.2 ⟨tok237, (List.forall_mem_cons.2 ⟨tok239, (List.forall_mem_cons.2 ⟨tok246, (List.forall_mem_cons.2 ⟨tok248, (List.forall_mem_cons.2 ⟨tok253, (List.forall_mem_cons.2 ⟨tok255, (List.forall_mem_cons.2 ⟨tok256, (List.forall_mem_cons.2 ⟨tok257, (List.forall_mem_cons.2 ⟨tok258, (List.forall_mem_cons.2 ⟨tok264, (List.forall_mem_cons.2 ⟨tok266, (List.forall_mem_cons.2 ⟨tok275, (List.forall_mem_cons.2 ⟨tok276, (List.forall_mem_cons.2 ⟨tok278, (List.forall_mem_cons.2 ⟨tok279, (List.forall_mem_cons.2 ⟨tok281, (List.forall_mem_cons.2 ⟨tok289, (List.forall_mem_cons.2 ⟨tok295, (List.forall_mem_cons.2 ⟨tok303, (List.forall_mem_cons.2 ⟨tok305, (List.forall_mem_cons.2 ⟨tok313, (List.forall_mem_cons.2 ⟨tok316, (List.forall_mem_cons.2 ⟨tok320, (List.forall_mem_cons.2 ⟨tok336, (List.forall_mem_cons.2 ⟨tok337, (List.forall_mem_cons.2 ⟨tok341, (List.forall_mem_cons.2 ⟨tok344, (List.forall_mem_cons.2 ⟨tok346, (List.forall_mem_cons.2 ⟨tok349, (List.forall_mem_cons.2 ⟨tok355, (List.forall_mem_cons.2 ⟨tok358, (List.forall_mem_cons.2 ⟨tok369, (by simp)⟩)⟩)⟩)⟩)⟩)⟩)⟩)⟩)⟩)⟩)⟩)⟩)⟩)⟩)⟩)⟩)⟩)⟩)⟩)⟩)⟩)⟩)⟩)⟩)⟩)⟩)⟩)⟩)⟩)⟩)⟩)⟩)⟩)⟩)⟩)⟩)⟩)⟩)⟩)⟩)⟩)⟩)⟩)⟩)⟩)⟩)⟩)⟩)⟩)⟩)⟩)⟩)⟩)⟩)⟩)⟩)⟩)⟩)⟩)⟩)⟩)⟩)⟩)⟩)⟩)⟩)⟩)⟩)⟩)⟩)⟩)⟩)⟩)⟩)⟩)⟩)⟩)⟩)⟩)⟩)⟩)⟩)⟩)⟩)⟩)⟩)⟩)⟩)⟩)⟩)⟩)⟩)⟩)⟩)⟩)⟩)⟩)⟩)⟩)⟩)⟩)⟩)⟩)⟩)⟩)⟩)⟩)⟩)⟩)⟩)
theorem mixedT : prog.follows .mixedOrders = true := by kernel_rfl
def noEqs : Eqs prog := ⟨fun _ => false, fun _ h => by cases h⟩
def Tx : Tab := look tiT
def Kx (im : Nat → Bool) : Cx prog := ⟨Tx, look_ok tiT_ok, noEqs, mixedT, im⟩
theorem tx1 : Tx 1 = ti1 := rfl
theorem tx2 : Tx 2 = ti2 := rfl
theorem tx3 : Tx 3 = ti3 := rfl
theorem tx4 : Tx 4 = ti4 := rfl
theorem tx5 : Tx 5 = ti5 := rfl
theorem tx9 : Tx 9 = ti9 := rfl
theorem tx21 : Tx 21 = ti21 := rfl
theorem tx23 : Tx 23 = ti23 := rfl
theorem tx24 : Tx 24 = ti24 := rfl
theorem tx25 : Tx 25 = ti25 := rfl
theorem tx33 : Tx 33 = ti33 := rfl
theorem tx35 : Tx 35 = ti35 := rfl
theorem tx37 : Tx 37 = ti37 := rfl
theorem tx39 : Tx 39 = ti39 := rfl
theorem tx41 : Tx 41 = ti41 := rfl
theorem tx42 : Tx 42 = ti42 := rfl
theorem tx44 : Tx 44 = ti44 := rfl
theorem tx45 : Tx 45 = ti45 := rfl
theorem tx46 : Tx 46 = ti46 := rfl
theorem tx47 : Tx 47 = ti47 := rfl
theorem tx48 : Tx 48 = ti48 := rfl
theorem tx50 : Tx 50 = ti50 := rfl
theorem tx53 : Tx 53 = ti53 := rfl
theorem tx55 : Tx 55 = ti55 := rfl
theorem tx59 : Tx 59 = ti59 := rfl
theorem tx60 : Tx 60 = ti60 := rfl
theorem tx62 : Tx 62 = ti62 := rfl
theorem tx65 : Tx 65 = ti65 := rfl
theorem tx67 : Tx 67 = ti67 := rfl
theorem tx68 : Tx 68 = ti68 := rfl
theorem tx73 : Tx 73 = ti73 := rfl
theorem tx75 : Tx 75 = ti75 := rfl
theorem tx81 : Tx 81 = ti81 := rfl
theorem tx82 : Tx 82 = ti82 := rfl
theorem tx85 : Tx 85 = ti85 := rfl
theorem tx87 : Tx 87 = ti87 := rfl
theorem tx89 : Tx 89 = ti89 := rfl
theorem tx90 : Tx 90 = ti90 := rfl
theorem tx92 : Tx 92 = ti92 := rfl
theorem tx98 : Tx 98 = ti98 := rfl
theorem tx100 : Tx 100 = ti100 := rfl
theorem tx101 : Tx 101 = ti101 := rfl
theorem tx103 : Tx 103 = ti103 := rfl
theorem tx104 : Tx 104 = ti104 := rfl
theorem tx105 : Tx 105 = ti105 := rfl
theorem tx107 : Tx 107 = ti107 := rfl
theorem tx108 : Tx 108 = ti108 := rfl
theorem tx110 : Tx 110 = ti110 := rfl
theorem tx112 : Tx 112 = ti112 := rfl
theorem tx114 : Tx 114 = ti114 := rfl
theorem tx118 : Tx 118 = ti118 := rfl
theorem tx126 : Tx 126 = ti126 := rfl
theorem tx128 : Tx 128 = ti128 := rfl
theorem tx131 : Tx 131 = ti131 := rfl
theorem tx135 : Tx 135 = ti135 := rfl
theorem tx138 : Tx 138 = ti138 := rfl
theorem tx141 : Tx 141 = ti141 := rfl
theorem tx148 : Tx 148 = ti148 := rfl
theorem tx150 : Tx 150 = ti150 := rfl
theorem tx155 : Tx 155 = ti155 := rfl
theorem tx156 : Tx 156 = ti156 := rfl
theorem tx162 : Tx 162 = ti162 := rfl
theorem tx168 : Tx 168 = ti168 := rfl
theorem tx174 : Tx 174 = ti174 := rfl
theorem tx180 : Tx 180 = ti180 := rfl
theorem tx182 : Tx 182 = ti182 := rfl
theorem tx183 : Tx 183 = ti183 := rfl
theorem tx184 : Tx 184 = ti184 := rfl
theorem tx188 : Tx 188 = ti188 := rfl
theorem tx205 : Tx 205 = ti205 := rfl
theorem tx209 : Tx 209 = ti209 := rfl
theorem tx212 : Tx 212 = ti212 := rfl
theorem tx215 : Tx 215 = ti215 := rfl
theorem tx217 : Tx 217 = ti217 := rfl
theorem tx218 : Tx 218 = ti218 := rfl
theorem tx219 : Tx 219 = ti219 := rfl
theorem tx222 : Tx 222 = ti222 := rfl
theorem tx232 : Tx 232 = ti232 := rfl
theorem tx237 : Tx 237 = ti237 := rfl
theorem tx239 : Tx 239 = ti239 := rfl
theorem tx246 : Tx 246 = ti246 := rfl
theorem tx248 : Tx 248 = ti248 := rfl
theorem tx253 : Tx 253 = ti253 := rfl
theorem tx255 : Tx 255 = ti255 := rfl
theorem tx256 : Tx 256 = ti256 := rfl
theorem tx257 : Tx 257 = ti257 := rfl
theorem tx258 : Tx 258 = ti258 := rfl
theorem tx264 : Tx 264 = ti264 := rfl
theorem tx266 : Tx 266 = ti266 := rfl
theorem tx275 : Tx 275 = ti275 := rfl
theorem tx276 : Tx 276 = ti276 := rfl
theorem tx278 : Tx 278 = ti278 := rfl
theorem tx279 : Tx 279 = ti279 := rfl
theorem tx281 : Tx 281 = ti281 := rfl
theorem tx289 : Tx 289 = ti289 := rfl
theorem tx295 : Tx 295 = ti295 := rfl
theorem tx303 : Tx 303 = ti303 := rfl
theorem tx305 : Tx 305 = ti305 := rfl
theorem tx313 : Tx 313 = ti313 := rfl
theorem tx316 : Tx 316 = ti316 := rfl
theorem tx320 : Tx 320 = ti320 := rfl
theorem tx336 : Tx 336 = ti336 := rfl
theorem tx337 : Tx 337 = ti337 := rfl
theorem tx341 : Tx 341 = ti341 := rfl
theorem tx344 : Tx 344 = ti344 := rfl
theorem tx346 : Tx 346 = ti346 := rfl
theorem tx349 : Tx 349 = ti349 := rfl
theorem tx355 : Tx 355 = ti355 := rfl
theorem tx358 : Tx 358 = ti358 := rfl
theorem tx369 : Tx 369 = ti369 := rfl
theorem KxT (im : Nat → Bool) : (Kx im).T = Tx := rfl
theorem KxE (im : Nat → Bool) : (Kx im).E = noEqs := rfl
theorem KxI (im : Nat → Bool) (n : Nat) : (Kx im).IM n = im n := rfl
attribute [go_sem] KxT KxE KxI noEqs tx1 ti1 tx2 ti2 tx3 ti3 tx4 ti4 tx5 ti5 tx9 ti9 tx21 ti21 tx23 ti23 tx24 ti24 tx25 ti25 tx33 ti33 tx35 ti35 tx37 ti37 tx39 ti39 tx41 ti41 tx42 ti42 tx44 ti44 tx45 ti45 tx46 ti46 tx47 ti47 tx48 ti48 tx50 ti50 tx53 ti53 tx55 ti55 tx59 ti59 tx60 ti60 tx62 ti62 tx65 ti65 tx67 ti67 tx68 ti68 tx73 ti73 tx75 ti75 tx81 ti81 tx82 ti82 tx85 ti85 tx87 ti87 tx89 ti89 tx90 ti90 tx92 ti92 tx98 ti98 tx100 ti100 tx101 ti101 tx103 ti103 tx104 ti104 tx105 ti105 tx107 ti107 tx108 ti108 tx110 ti110 tx112 ti112 tx114 ti114 tx118 ti118 tx126 ti126 tx128 ti128 tx131 ti131 tx135 ti135 tx138 ti138 tx141 ti141 tx148 ti148 tx150 ti150 tx155 ti155 tx156 ti156 tx162 ti162 tx168 ti168 tx174 ti174 tx180 ti180 tx182 ti182 tx183 ti183 tx184 ti184 tx188 ti188 tx205 ti205 tx209 ti209 tx212 ti212 tx215 ti215 tx217 ti217 tx218 ti218 tx219 ti219 tx222 ti222 tx232 ti232 tx237 ti237 tx239 ti239 tx246 ti246 tx248 ti248 tx253 ti253 tx255 ti255 tx256 ti256 tx257 ti257 tx258 ti258 tx264 ti264 tx266 ti266 tx275 ti275 tx276 ti276 tx278 ti278 tx279 ti279 tx281 ti281 tx289 ti289 tx295 ti295 tx303 ti303 tx305 ti305 tx313 ti313 tx316 ti316 tx320 ti320 tx336 ti336 tx337 ti337 tx341 ti341 tx344 ti344 tx346 ti346 tx349 ti349 tx355 ti355 tx358 ti358 tx369 ti369
abbrev nf : Nat → Bool := fun _ => false
abbrev dI (n : Int) : D := .c (.int .i64 n)
abbrev dB (b : Bool) : D := .c (.bool b)
abbrev dS (s : ByteArray) : D := .c (.string s)
section
variable {B : Base} {Q : Exit → AS → Prop} {α : AS}
theorem rg {id N : Nat} {l : List Oper} {K : AS → Prop} (hN : B.N = N) (h : lexT (Kx nf) id N l (fun β _ => K β) [] 0 α [] ⟨⟩) : awp prog B (.region id l.toArray false) (onN K Q) α := aw_region hN h
theorem rd {id N : Nat} {l : List Oper} {K : AS → Prop} (hN : B.N = N) (h : lexT (Kx nf) id N l (fun β tr => okReg N l.toArray tr = true ∧ K β) [] 0 α [] ⟨⟩) : awp prog B (.region id l.toArray true) (onN K Q) α := aw_draw hN h
theorem rgE {id N : Nat} {l : List Oper} (hN : B.N = N) (h : lexT (Kx nf) id N l (fun β _ => Q .normal β) [] 0 α [] ⟨⟩) : awp prog B (.region id l.toArray false) Q α := aw_regionE hN h
theorem rdE {id N : Nat} {l : List Oper} (hN : B.N = N) (h : lexT (Kx nf) id N l (fun β tr => okReg N l.toArray tr = true ∧ Q .normal β) [] 0 α [] ⟨⟩) : awp prog B (.region id l.toArray true) Q α := aw_drawE hN h
end
end Go.AM
