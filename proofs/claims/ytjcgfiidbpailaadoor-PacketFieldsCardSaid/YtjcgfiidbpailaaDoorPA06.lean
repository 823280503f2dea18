/- What the card of this claim stands on, or the card itself: for every input, as the given row says. -/
import Derived.Test.YtjcgfiidbpailaaDoorProg
import Derived.KernelRfl
import Derived.Laws.BitsLemmas
import Derived.Laws.Bits64
import Derived.LoopNIn
import Derived.RangeFuncRecord
import Derived.Test.YtjcgfiidbpailaaDoorPA05

namespace Go.Ax
open Go.Proofs
def Tryd.tab : List (Nat × TI) := [
  (1, ⟨.func, 1, 8, [.nilFunc], []⟩),
  (2, ⟨(.int .i64), 1, 8, [.int .i64 0], [.int .i64]⟩),
  (3, ⟨(.int .i64), 1, 8, [.int .i64 0], [.int .i64]⟩),
  (4, ⟨.bool, 1, 1, [.bool false], [.bool]⟩),
  (5, ⟨(.int .u8), 1, 1, [.int .u8 0], [.int .u8]⟩),
  (6, ⟨(.int .u8), 1, 1, [.int .u8 0], [.int .u8]⟩),
  (7, ⟨(.struct [(0, 2), (1, 3), (2, 4), (3, 6)]), 4, 24, [.int .i64 0, .int .i64 0, .bool false, .int .u8 0], [.int .i64, .int .i64, .bool, .int .u8]⟩),
  (8, ⟨(.struct [(0, 2), (1, 3), (2, 4), (3, 6)]), 4, 24, [.int .i64 0, .int .i64 0, .bool false, .int .u8 0], [.int .i64, .int .i64, .bool, .int .u8]⟩),
  (9, ⟨.str, 1, 16, [.string ⟨#[]⟩], [.str]⟩),
  (10, ⟨.str, 1, 16, [.string ⟨#[]⟩], [.str]⟩),
  (11, ⟨.str, 1, 16, [.string ⟨#[]⟩], [.str]⟩),
  (12, ⟨(.int .u64), 1, 8, [.int .u64 0], [.int .u64]⟩),
  (13, ⟨(.struct [(0, 9), (1, 12)]), 2, 24, [.string ⟨#[]⟩, .int .u64 0], []⟩),
  (14, ⟨(.struct [(0, 9), (1, 12)]), 2, 24, [.string ⟨#[]⟩, .int .u64 0], []⟩),
  (15, ⟨(.ptr 244), 1, 8, [.pointer none], []⟩),
  (16, ⟨(.ptr 247), 1, 8, [.pointer none], []⟩),
  (17, ⟨(.ptr 254), 1, 8, [.pointer none], []⟩),
  (18, ⟨(.struct [(0, 17)]), 1, 8, [.pointer none], []⟩),
  (19, ⟨(.struct [(0, 17)]), 1, 8, [.pointer none], []⟩),
  (20, ⟨.iface, 1, 16, [.nilIface], []⟩),
  (21, ⟨(.int .i32), 1, 4, [.int .i32 0], [.int .i32]⟩),
  (22, ⟨(.int .u16), 1, 2, [.int .u16 0], [.int .u16]⟩),
  (23, ⟨(.array 8 22), 8, 16, [.int .u16 0, .int .u16 0, .int .u16 0, .int .u16 0, .int .u16 0, .int .u16 0, .int .u16 0, .int .u16 0], [.int .u16, .int .u16, .int .u16, .int .u16, .int .u16, .int .u16, .int .u16, .int .u16]⟩),
  (24, ⟨(.array 8 22), 8, 16, [.int .u16 0, .int .u16 0, .int .u16 0, .int .u16 0, .int .u16 0, .int .u16 0, .int .u16 0, .int .u16 0], [.int .u16, .int .u16, .int .u16, .int .u16, .int .u16, .int .u16, .int .u16, .int .u16]⟩),
  (25, ⟨(.array 2 22), 2, 4, [.int .u16 0, .int .u16 0], [.int .u16, .int .u16]⟩),
  (26, ⟨.func, 1, 8, [.nilFunc], []⟩),
  (27, ⟨.func, 1, 8, [.nilFunc], []⟩),
  (28, ⟨(.struct [(0, 3), (1, 22)]), 2, 16, [.int .i64 0, .int .u16 0], [.int .i64, .int .u16]⟩),
  (29, ⟨(.struct [(0, 3), (1, 22)]), 2, 16, [.int .i64 0, .int .u16 0], [.int .i64, .int .u16]⟩),
  (30, ⟨(.slice 29), 1, 24, [.slice none 0 0], []⟩),
  (31, ⟨(.slice 29), 1, 24, [.slice none 0 0], []⟩),
  (32, ⟨.func, 1, 8, [.nilFunc], []⟩),
  (33, ⟨.func, 1, 8, [.nilFunc], []⟩),
  (34, ⟨.func, 1, 8, [.nilFunc], []⟩),
  (35, ⟨(.slice 9), 1, 24, [.slice none 0 0], []⟩),
  (36, ⟨.func, 1, 8, [.nilFunc], []⟩),
  (38, ⟨.func, 1, 8, [.nilFunc], []⟩),
  (39, ⟨(.struct [(0, 22), (1, 22)]), 2, 4, [.int .u16 0, .int .u16 0], [.int .u16, .int .u16]⟩),
  (40, ⟨(.struct [(0, 22), (1, 22)]), 2, 4, [.int .u16 0, .int .u16 0], [.int .u16, .int .u16]⟩),
  (41, ⟨.func, 1, 8, [.nilFunc], []⟩),
  (42, ⟨.func, 1, 8, [.nilFunc], []⟩),
  (43, ⟨.func, 1, 8, [.nilFunc], []⟩),
  (44, ⟨.func, 1, 8, [.nilFunc], []⟩),
  (45, ⟨.func, 1, 8, [.nilFunc], []⟩),
  (46, ⟨(.slice 22), 1, 24, [.slice none 0 0], []⟩),
  (47, ⟨(.slice 49), 1, 24, [.slice none 0 0], []⟩),
  (48, ⟨(.struct [(0, 3), (1, 3), (2, 22), (3, 47)]), 4, 48, [.int .i64 0, .int .i64 0, .int .u16 0, .slice none 0 0], []⟩),
  (49, ⟨(.struct [(0, 3), (1, 3), (2, 22), (3, 47)]), 4, 48, [.int .i64 0, .int .i64 0, .int .u16 0, .slice none 0 0], []⟩),
  (50, ⟨(.slice 93), 1, 24, [.slice none 0 0], []⟩),
  (51, ⟨(.struct [(0, 46), (1, 49), (5, 50)]), 6, 96, [.slice none 0 0, .int .i64 0, .int .i64 0, .int .u16 0, .slice none 0 0, .slice none 0 0], []⟩),
  (52, ⟨(.struct [(0, 46), (1, 49), (5, 50)]), 6, 96, [.slice none 0 0, .int .i64 0, .int .i64 0, .int .u16 0, .slice none 0 0, .slice none 0 0], []⟩),
  (53, ⟨(.int .i64), 1, 8, [.int .i64 0], [.int .i64]⟩),
  (55, ⟨.func, 1, 8, [.nilFunc], []⟩),
  (56, ⟨.func, 1, 8, [.nilFunc], []⟩),
  (57, ⟨.func, 1, 8, [.nilFunc], []⟩),
  (58, ⟨(.slice 24), 1, 24, [.slice none 0 0], []⟩),
  (59, ⟨.func, 1, 8, [.nilFunc], []⟩),
  (61, ⟨.func, 1, 8, [.nilFunc], []⟩),
  (62, ⟨.func, 1, 8, [.nilFunc], []⟩),
  (64, ⟨.func, 1, 8, [.nilFunc], []⟩),
  (65, ⟨.func, 1, 8, [.nilFunc], []⟩),
  (66, ⟨.func, 1, 8, [.nilFunc], []⟩),
  (67, ⟨.func, 1, 8, [.nilFunc], []⟩),
  (68, ⟨.func, 1, 8, [.nilFunc], []⟩),
  (69, ⟨.func, 1, 8, [.nilFunc], []⟩),
  (70, ⟨(.slice 114), 1, 24, [.slice none 0 0], []⟩),
  (72, ⟨.func, 1, 8, [.nilFunc], []⟩),
  (73, ⟨(.ptr 76), 1, 8, [.pointer none], []⟩),
  (74, ⟨(.map 9 22), 1, 8, [.map none], []⟩),
  (75, ⟨(.struct [(0, 70), (1, 74), (2, 4), (3, 4)]), 4, 40, [.slice none 0 0, .map none, .bool false, .bool false], []⟩),
  (76, ⟨(.struct [(0, 70), (1, 74), (2, 4), (3, 4)]), 4, 40, [.slice none 0 0, .map none, .bool false, .bool false], []⟩),
  (78, ⟨.func, 1, 8, [.nilFunc], []⟩),
  (79, ⟨.func, 1, 8, [.nilFunc], []⟩),
  (80, ⟨(.ptr 83), 1, 8, [.pointer none], []⟩),
  (81, ⟨(.slice 5), 1, 24, [.slice none 0 0], []⟩),
  (82, ⟨(.struct [(0, 80), (1, 81)]), 2, 32, [.pointer none, .slice none 0 0], []⟩),
  (83, ⟨(.struct [(0, 80), (1, 81)]), 2, 32, [.pointer none, .slice none 0 0], []⟩),
  (84, ⟨(.struct [(0, 83)]), 2, 32, [.pointer none, .slice none 0 0], []⟩),
  (85, ⟨(.struct [(0, 83)]), 2, 32, [.pointer none, .slice none 0 0], []⟩),
  (86, ⟨.iface, 1, 16, [.nilIface], []⟩),
  (87, ⟨.iface, 1, 16, [.nilIface], []⟩),
  (89, ⟨.func, 1, 8, [.nilFunc], []⟩),
  (90, ⟨.func, 1, 8, [.nilFunc], []⟩),
  (91, ⟨.func, 1, 8, [.nilFunc], []⟩),
  (92, ⟨(.struct [(0, 30), (1, 30), (2, 30)]), 3, 72, [.slice none 0 0, .slice none 0 0, .slice none 0 0], []⟩),
  (93, ⟨(.struct [(0, 30), (1, 30), (2, 30)]), 3, 72, [.slice none 0 0, .slice none 0 0, .slice none 0 0], []⟩),
  (94, ⟨.func, 1, 8, [.nilFunc], []⟩),
  (95, ⟨.func, 1, 8, [.nilFunc], []⟩),
  (96, ⟨.func, 1, 8, [.nilFunc], []⟩),
  (97, ⟨(.slice 135), 1, 24, [.slice none 0 0], []⟩),
  (99, ⟨.func, 1, 8, [.nilFunc], []⟩),
  (100, ⟨.func, 1, 8, [.nilFunc], []⟩),
  (101, ⟨(.map 3 4), 1, 8, [.map none], []⟩),
  (102, ⟨.func, 1, 8, [.nilFunc], []⟩),
  (103, ⟨.func, 1, 8, [.nilFunc], []⟩),
  (104, ⟨.func, 1, 8, [.nilFunc], []⟩),
  (106, ⟨.func, 1, 8, [.nilFunc], []⟩),
  (108, ⟨.func, 1, 8, [.nilFunc], []⟩),
  (109, ⟨.func, 1, 8, [.nilFunc], []⟩),
  (110, ⟨.func, 1, 8, [.nilFunc], []⟩),
  (112, ⟨.func, 1, 8, [.nilFunc], []⟩),
  (113, ⟨(.struct [(0, 3), (1, 9), (2, 22)]), 3, 32, [.int .i64 0, .string ⟨#[]⟩, .int .u16 0], [.int .i64, .str, .int .u16]⟩),
  (114, ⟨(.struct [(0, 3), (1, 9), (2, 22)]), 3, 32, [.int .i64 0, .string ⟨#[]⟩, .int .u16 0], [.int .i64, .str, .int .u16]⟩),
  (115, ⟨.func, 1, 8, [.nilFunc], []⟩),
  (116, ⟨.func, 1, 8, [.nilFunc], []⟩),
  (117, ⟨.func, 1, 8, [.nilFunc], []⟩),
  (119, ⟨.func, 1, 8, [.nilFunc], []⟩),
  (120, ⟨(.struct []), 0, 0, [], []⟩),
  (121, ⟨(.struct []), 0, 0, [], []⟩),
  (123, ⟨.func, 1, 8, [.nilFunc], []⟩),
  (124, ⟨.func, 1, 8, [.nilFunc], []⟩),
  (125, ⟨.func, 1, 8, [.nilFunc], []⟩),
  (126, ⟨.func, 1, 8, [.nilFunc], []⟩),
  (127, ⟨(.ptr 85), 1, 8, [.pointer none], []⟩),
  (128, ⟨.func, 1, 8, [.nilFunc], []⟩),
  (129, ⟨.func, 1, 8, [.nilFunc], []⟩),
  (130, ⟨.func, 1, 8, [.nilFunc], []⟩),
  (131, ⟨(.ptr 5), 1, 8, [.pointer none], []⟩),
  (132, ⟨.func, 1, 8, [.nilFunc], []⟩),
  (133, ⟨.func, 1, 8, [.nilFunc], []⟩),
  (134, ⟨(.struct [(0, 4), (1, 4), (2, 3), (3, 3), (4, 30)]), 5, 48, [.bool false, .bool false, .int .i64 0, .int .i64 0, .slice none 0 0], []⟩),
  (135, ⟨(.struct [(0, 4), (1, 4), (2, 3), (3, 3), (4, 30)]), 5, 48, [.bool false, .bool false, .int .i64 0, .int .i64 0, .slice none 0 0], []⟩),
  (137, ⟨.func, 1, 8, [.nilFunc], []⟩),
  (138, ⟨.func, 1, 8, [.nilFunc], []⟩),
  (139, ⟨.func, 1, 8, [.nilFunc], []⟩),
  (140, ⟨.func, 1, 8, [.nilFunc], []⟩),
  (141, ⟨(.int .u64), 1, 8, [.int .u64 0], [.int .u64]⟩),
  (143, ⟨.func, 1, 8, [.nilFunc], []⟩),
  (144, ⟨.func, 1, 8, [.nilFunc], []⟩),
  (145, ⟨(.array 256 5), 256, 256, [.int .u8 0, .int .u8 0, .int .u8 0, .int .u8 0, .int .u8 0, .int .u8 0, .int .u8 0, .int .u8 0, .int .u8 0, .int .u8 0, .int .u8 0, .int .u8 0, .int .u8 0, .int .u8 0, .int .u8 0, .int .u8 0, .int .u8 0, .int .u8 0, .int .u8 0, .int .u8 0, .int .u8 0, .int .u8 0, .int .u8 0, .int .u8 0, .int .u8 0, .int .u8 0, .int .u8 0, .int .u8 0, .int .u8 0, .int .u8 0, .int .u8 0, .int .u8 0, .int .u8 0, .int .u8 0, .int .u8 0, .int .u8 0, .int .u8 0, .int .u8 0, .int .u8 0, .int .u8 0, .int .u8 0, .int .u8 0, .int .u8 0, .int .u8 0, .int .u8 0, .int .u8 0, .int .u8 0, .int .u8 0, .int .u8 0, .int .u8 0, .int .u8 0, .int .u8 0, .int .u8 0, .int .u8 0, .int .u8 0, .int .u8 0, .int .u8 0, .int .u8 0, .int .u8 0, .int .u8 0, .int .u8 0, .int .u8 0, .int .u8 0, .int .u8 0, .int .u8 0, .int .u8 0, .int .u8 0, .int .u8 0, .int .u8 0, .int .u8 0, .int .u8 0, .int .u8 0, .int .u8 0, .int .u8 0, .int .u8 0, .int .u8 0, .int .u8 0, .int .u8 0, .int .u8 0, .int .u8 0, .int .u8 0, .int .u8 0, .int .u8 0, .int .u8 0, .int .u8 0, .int .u8 0, .int .u8 0, .int .u8 0, .int .u8 0, .int .u8 0, .int .u8 0, .int .u8 0, .int .u8 0, .int .u8 0, .int .u8 0, .int .u8 0, .int .u8 0, .int .u8 0, .int .u8 0, .int .u8 0, .int .u8 0, .int .u8 0, .int .u8 0, .int .u8 0, .int .u8 0, .int .u8 0, .int .u8 0, .int .u8 0, .int .u8 0, .int .u8 0, .int .u8 0, .int .u8 0, .int .u8 0, .int .u8 0, .int .u8 0, .int .u8 0, .int .u8 0, .int .u8 0, .int .u8 0, .int .u8 0, .int .u8 0, .int .u8 0, .int .u8 0, .int .u8 0, .int .u8 0, .int .u8 0, .int .u8 0, .int .u8 0, .int .u8 0, .int .u8 0, .int .u8 0, .int .u8 0, .int .u8 0, .int .u8 0, .int .u8 0, .int .u8 0, .int .u8 0, .int .u8 0, .int .u8 0, .int .u8 0, .int .u8 0, .int .u8 0, .int .u8 0, .int .u8 0, .int .u8 0, .int .u8 0, .int .u8 0, .int .u8 0, .int .u8 0, .int .u8 0, .int .u8 0, .int .u8 0, .int .u8 0, .int .u8 0, .int .u8 0, .int .u8 0, .int .u8 0, .int .u8 0, .int .u8 0, .int .u8 0, .int .u8 0, .int .u8 0, .int .u8 0, .int .u8 0, .int .u8 0, .int .u8 0, .int .u8 0, .int .u8 0, .int .u8 0, .int .u8 0, .int .u8 0, .int .u8 0, .int .u8 0, .int .u8 0, .int .u8 0, .int .u8 0, .int .u8 0, .int .u8 0, .int .u8 0, .int .u8 0, .int .u8 0, .int .u8 0, .int .u8 0, .int .u8 0, .int .u8 0, .int .u8 0, .int .u8 0, .int .u8 0, .int .u8 0, .int .u8 0, .int .u8 0, .int .u8 0, .int .u8 0, .int .u8 0, .int .u8 0, .int .u8 0, .int .u8 0, .int .u8 0, .int .u8 0, .int .u8 0, .int .u8 0, .int .u8 0, .int .u8 0, .int .u8 0, .int .u8 0, .int .u8 0, .int .u8 0, .int .u8 0, .int .u8 0, .int .u8 0, .int .u8 0, .int .u8 0, .int .u8 0, .int .u8 0, .int .u8 0, .int .u8 0, .int .u8 0, .int .u8 0, .int .u8 0, .int .u8 0, .int .u8 0, .int .u8 0, .int .u8 0, .int .u8 0, .int .u8 0, .int .u8 0, .int .u8 0, .int .u8 0, .int .u8 0, .int .u8 0, .int .u8 0, .int .u8 0, .int .u8 0, .int .u8 0, .int .u8 0, .int .u8 0, .int .u8 0, .int .u8 0, .int .u8 0, .int .u8 0, .int .u8 0, .int .u8 0, .int .u8 0, .int .u8 0, .int .u8 0, .int .u8 0, .int .u8 0, .int .u8 0, .int .u8 0, .int .u8 0, .int .u8 0, .int .u8 0, .int .u8 0, .int .u8 0, .int .u8 0, .int .u8 0], [.int .u8, .int .u8, .int .u8, .int .u8, .int .u8, .int .u8, .int .u8, .int .u8, .int .u8, .int .u8, .int .u8, .int .u8, .int .u8, .int .u8, .int .u8, .int .u8, .int .u8, .int .u8, .int .u8, .int .u8, .int .u8, .int .u8, .int .u8, .int .u8, .int .u8, .int .u8, .int .u8, .int .u8, .int .u8, .int .u8, .int .u8, .int .u8, .int .u8, .int .u8, .int .u8, .int .u8, .int .u8, .int .u8, .int .u8, .int .u8, .int .u8, .int .u8, .int .u8, .int .u8, .int .u8, .int .u8, .int .u8, .int .u8, .int .u8, .int .u8, .int .u8, .int .u8, .int .u8, .int .u8, .int .u8, .int .u8, .int .u8, .int .u8, .int .u8, .int .u8, .int .u8, .int .u8, .int .u8, .int .u8, .int .u8, .int .u8, .int .u8, .int .u8, .int .u8, .int .u8, .int .u8, .int .u8, .int .u8, .int .u8, .int .u8, .int .u8, .int .u8, .int .u8, .int .u8, .int .u8, .int .u8, .int .u8, .int .u8, .int .u8, .int .u8, .int .u8, .int .u8, .int .u8, .int .u8, .int .u8, .int .u8, .int .u8, .int .u8, .int .u8, .int .u8, .int .u8, .int .u8, .int .u8, .int .u8, .int .u8, .int .u8, .int .u8, .int .u8, .int .u8, .int .u8, .int .u8, .int .u8, .int .u8, .int .u8, .int .u8, .int .u8, .int .u8, .int .u8, .int .u8, .int .u8, .int .u8, .int .u8, .int .u8, .int .u8, .int .u8, .int .u8, .int .u8, .int .u8, .int .u8, .int .u8, .int .u8, .int .u8, .int .u8, .int .u8, .int .u8, .int .u8, .int .u8, .int .u8, .int .u8, .int .u8, .int .u8, .int .u8, .int .u8, .int .u8, .int .u8, .int .u8, .int .u8, .int .u8, .int .u8, .int .u8, .int .u8, .int .u8, .int .u8, .int .u8, .int .u8, .int .u8, .int .u8, .int .u8, .int .u8, .int .u8, .int .u8, .int .u8, .int .u8, .int .u8, .int .u8, .int .u8, .int .u8, .int .u8, .int .u8, .int .u8, .int .u8, .int .u8, .int .u8, .int .u8, .int .u8, .int .u8, .int .u8, .int .u8, .int .u8, .int .u8, .int .u8, .int .u8, .int .u8, .int .u8, .int .u8, .int .u8, .int .u8, .int .u8, .int .u8, .int .u8, .int .u8, .int .u8, .int .u8, .int .u8, .int .u8, .int .u8, .int .u8, .int .u8, .int .u8, .int .u8, .int .u8, .int .u8, .int .u8, .int .u8, .int .u8, .int .u8, .int .u8, .int .u8, .int .u8, .int .u8, .int .u8, .int .u8, .int .u8, .int .u8, .int .u8, .int .u8, .int .u8, .int .u8, .int .u8, .int .u8, .int .u8, .int .u8, .int .u8, .int .u8, .int .u8, .int .u8, .int .u8, .int .u8, .int .u8, .int .u8, .int .u8, .int .u8, .int .u8, .int .u8, .int .u8, .int .u8, .int .u8, .int .u8, .int .u8, .int .u8, .int .u8, .int .u8, .int .u8, .int .u8, .int .u8, .int .u8, .int .u8, .int .u8, .int .u8, .int .u8, .int .u8, .int .u8, .int .u8, .int .u8, .int .u8, .int .u8, .int .u8, .int .u8, .int .u8, .int .u8, .int .u8]⟩),
  (146, ⟨(.struct [(0, 5), (1, 5)]), 2, 2, [.int .u8 0, .int .u8 0], [.int .u8, .int .u8]⟩),
  (147, ⟨(.struct [(0, 5), (1, 5)]), 2, 2, [.int .u8 0, .int .u8 0], [.int .u8, .int .u8]⟩),
  (148, ⟨(.array 16 147), 32, 32, [.int .u8 0, .int .u8 0, .int .u8 0, .int .u8 0, .int .u8 0, .int .u8 0, .int .u8 0, .int .u8 0, .int .u8 0, .int .u8 0, .int .u8 0, .int .u8 0, .int .u8 0, .int .u8 0, .int .u8 0, .int .u8 0, .int .u8 0, .int .u8 0, .int .u8 0, .int .u8 0, .int .u8 0, .int .u8 0, .int .u8 0, .int .u8 0, .int .u8 0, .int .u8 0, .int .u8 0, .int .u8 0, .int .u8 0, .int .u8 0, .int .u8 0, .int .u8 0], [.int .u8, .int .u8, .int .u8, .int .u8, .int .u8, .int .u8, .int .u8, .int .u8, .int .u8, .int .u8, .int .u8, .int .u8, .int .u8, .int .u8, .int .u8, .int .u8, .int .u8, .int .u8, .int .u8, .int .u8, .int .u8, .int .u8, .int .u8, .int .u8, .int .u8, .int .u8, .int .u8, .int .u8, .int .u8, .int .u8, .int .u8, .int .u8]⟩),
  (149, ⟨(.int .u64), 1, 8, [.int .u64 0], [.int .u64]⟩),
  (150, ⟨.func, 1, 8, [.nilFunc], []⟩),
  (151, ⟨.func, 1, 8, [.nilFunc], []⟩),
  (152, ⟨.func, 1, 8, [.nilFunc], []⟩),
  (153, ⟨.func, 1, 8, [.nilFunc], []⟩),
  (154, ⟨.func, 1, 8, [.nilFunc], []⟩),
  (155, ⟨.func, 1, 8, [.nilFunc], []⟩),
  (156, ⟨.func, 1, 8, [.nilFunc], []⟩),
  (157, ⟨.func, 1, 8, [.nilFunc], []⟩),
  (159, ⟨.func, 1, 8, [.nilFunc], []⟩),
  (160, ⟨.func, 1, 8, [.nilFunc], []⟩),
  (161, ⟨.func, 1, 8, [.nilFunc], []⟩),
  (162, ⟨.func, 1, 8, [.nilFunc], []⟩),
  (164, ⟨.func, 1, 8, [.nilFunc], []⟩),
  (166, ⟨.func, 1, 8, [.nilFunc], []⟩),
  (167, ⟨.func, 1, 8, [.nilFunc], []⟩),
  (168, ⟨.func, 1, 8, [.nilFunc], []⟩),
  (169, ⟨(.array 256 4), 256, 256, [.bool false, .bool false, .bool false, .bool false, .bool false, .bool false, .bool false, .bool false, .bool false, .bool false, .bool false, .bool false, .bool false, .bool false, .bool false, .bool false, .bool false, .bool false, .bool false, .bool false, .bool false, .bool false, .bool false, .bool false, .bool false, .bool false, .bool false, .bool false, .bool false, .bool false, .bool false, .bool false, .bool false, .bool false, .bool false, .bool false, .bool false, .bool false, .bool false, .bool false, .bool false, .bool false, .bool false, .bool false, .bool false, .bool false, .bool false, .bool false, .bool false, .bool false, .bool false, .bool false, .bool false, .bool false, .bool false, .bool false, .bool false, .bool false, .bool false, .bool false, .bool false, .bool false, .bool false, .bool false, .bool false, .bool false, .bool false, .bool false, .bool false, .bool false, .bool false, .bool false, .bool false, .bool false, .bool false, .bool false, .bool false, .bool false, .bool false, .bool false, .bool false, .bool false, .bool false, .bool false, .bool false, .bool false, .bool false, .bool false, .bool false, .bool false, .bool false, .bool false, .bool false, .bool false, .bool false, .bool false, .bool false, .bool false, .bool false, .bool false, .bool false, .bool false, .bool false, .bool false, .bool false, .bool false, .bool false, .bool false, .bool false, .bool false, .bool false, .bool false, .bool false, .bool false, .bool false, .bool false, .bool false, .bool false, .bool false, .bool false, .bool false, .bool false, .bool false, .bool false, .bool false, .bool false, .bool false, .bool false, .bool false, .bool false, .bool false, .bool false, .bool false, .bool false, .bool false, .bool false, .bool false, .bool false, .bool false, .bool false, .bool false, .bool false, .bool false, .bool false, .bool false, .bool false, .bool false, .bool false, .bool false, .bool false, .bool false, .bool false, .bool false, .bool false, .bool false, .bool false, .bool false, .bool false, .bool false, .bool false, .bool false, .bool false, .bool false, .bool false, .bool false, .bool false, .bool false, .bool false, .bool false, .bool false, .bool false, .bool false, .bool false, .bool false, .bool false, .bool false, .bool false, .bool false, .bool false, .bool false, .bool false, .bool false, .bool false, .bool false, .bool false, .bool false, .bool false, .bool false, .bool false, .bool false, .bool false, .bool false, .bool false, .bool false, .bool false, .bool false, .bool false, .bool false, .bool false, .bool false, .bool false, .bool false, .bool false, .bool false, .bool false, .bool false, .bool false, .bool false, .bool false, .bool false, .bool false, .bool false, .bool false, .bool false, .bool false, .bool false, .bool false, .bool false, .bool false, .bool false, .bool false, .bool false, .bool false, .bool false, .bool false, .bool false, .bool false, .bool false, .bool false, .bool false, .bool false, .bool false, .bool false, .bool false, .bool false, .bool false, .bool false, .bool false, .bool false, .bool false, .bool false, .bool false, .bool false, .bool false, .bool false, .bool false, .bool false, .bool false, .bool false, .bool false, .bool false, .bool false, .bool false, .bool false, .bool false, .bool false], [.bool, .bool, .bool, .bool, .bool, .bool, .bool, .bool, .bool, .bool, .bool, .bool, .bool, .bool, .bool, .bool, .bool, .bool, .bool, .bool, .bool, .bool, .bool, .bool, .bool, .bool, .bool, .bool, .bool, .bool, .bool, .bool, .bool, .bool, .bool, .bool, .bool, .bool, .bool, .bool, .bool, .bool, .bool, .bool, .bool, .bool, .bool, .bool, .bool, .bool, .bool, .bool, .bool, .bool, .bool, .bool, .bool, .bool, .bool, .bool, .bool, .bool, .bool, .bool, .bool, .bool, .bool, .bool, .bool, .bool, .bool, .bool, .bool, .bool, .bool, .bool, .bool, .bool, .bool, .bool, .bool, .bool, .bool, .bool, .bool, .bool, .bool, .bool, .bool, .bool, .bool, .bool, .bool, .bool, .bool, .bool, .bool, .bool, .bool, .bool, .bool, .bool, .bool, .bool, .bool, .bool, .bool, .bool, .bool, .bool, .bool, .bool, .bool, .bool, .bool, .bool, .bool, .bool, .bool, .bool, .bool, .bool, .bool, .bool, .bool, .bool, .bool, .bool, .bool, .bool, .bool, .bool, .bool, .bool, .bool, .bool, .bool, .bool, .bool, .bool, .bool, .bool, .bool, .bool, .bool, .bool, .bool, .bool, .bool, .bool, .bool, .bool, .bool, .bool, .bool, .bool, .bool, .bool, .bool, .bool, .bool, .bool, .bool, .bool, .bool, .bool, .bool, .bool, .bool, .bool, .bool, .bool, .bool, .bool, .bool, .bool, .bool, .bool, .bool, .bool, .bool, .bool, .bool, .bool, .bool, .bool, .bool, .bool, .bool, .bool, .bool, .bool, .bool, .bool, .bool, .bool, .bool, .bool, .bool, .bool, .bool, .bool, .bool, .bool, .bool, .bool, .bool, .bool, .bool, .bool, .bool, .bool, .bool, .bool, .bool, .bool, .bool, .bool, .bool, .bool, .bool, .bool, .bool, .bool, .bool, .bool, .bool, .bool, .bool, .bool, .bool, .bool, .bool, .bool, .bool, .bool, .bool, .bool, .bool, .bool, .bool, .bool, .bool, .bool, .bool, .bool, .bool, .bool, .bool, .bool, .bool, .bool, .bool, .bool, .bool, .bool]⟩),
  (170, ⟨(.array 256 4), 256, 256, [.bool false, .bool false, .bool false, .bool false, .bool false, .bool false, .bool false, .bool false, .bool false, .bool false, .bool false, .bool false, .bool false, .bool false, .bool false, .bool false, .bool false, .bool false, .bool false, .bool false, .bool false, .bool false, .bool false, .bool false, .bool false, .bool false, .bool false, .bool false, .bool false, .bool false, .bool false, .bool false, .bool false, .bool false, .bool false, .bool false, .bool false, .bool false, .bool false, .bool false, .bool false, .bool false, .bool false, .bool false, .bool false, .bool false, .bool false, .bool false, .bool false, .bool false, .bool false, .bool false, .bool false, .bool false, .bool false, .bool false, .bool false, .bool false, .bool false, .bool false, .bool false, .bool false, .bool false, .bool false, .bool false, .bool false, .bool false, .bool false, .bool false, .bool false, .bool false, .bool false, .bool false, .bool false, .bool false, .bool false, .bool false, .bool false, .bool false, .bool false, .bool false, .bool false, .bool false, .bool false, .bool false, .bool false, .bool false, .bool false, .bool false, .bool false, .bool false, .bool false, .bool false, .bool false, .bool false, .bool false, .bool false, .bool false, .bool false, .bool false, .bool false, .bool false, .bool false, .bool false, .bool false, .bool false, .bool false, .bool false, .bool false, .bool false, .bool false, .bool false, .bool false, .bool false, .bool false, .bool false, .bool false, .bool false, .bool false, .bool false, .bool false, .bool false, .bool false, .bool false, .bool false, .bool false, .bool false, .bool false, .bool false, .bool false, .bool false, .bool false, .bool false, .bool false, .bool false, .bool false, .bool false, .bool false, .bool false, .bool false, .bool false, .bool false, .bool false, .bool false, .bool false, .bool false, .bool false, .bool false, .bool false, .bool false, .bool false, .bool false, .bool false, .bool false, .bool false, .bool false, .bool false, .bool false, .bool false, .bool false, .bool false, .bool false, .bool false, .bool false, .bool false, .bool false, .bool false, .bool false, .bool false, .bool false, .bool false, .bool false, .bool false, .bool false, .bool false, .bool false, .bool false, .bool false, .bool false, .bool false, .bool false, .bool false, .bool false, .bool false, .bool false, .bool false, .bool false, .bool false, .bool false, .bool false, .bool false, .bool false, .bool false, .bool false, .bool false, .bool false, .bool false, .bool false, .bool false, .bool false, .bool false, .bool false, .bool false, .bool false, .bool false, .bool false, .bool false, .bool false, .bool false, .bool false, .bool false, .bool false, .bool false, .bool false, .bool false, .bool false, .bool false, .bool false, .bool false, .bool false, .bool false, .bool false, .bool false, .bool false, .bool false, .bool false, .bool false, .bool false, .bool false, .bool false, .bool false, .bool false, .bool false, .bool false, .bool false, .bool false, .bool false, .bool false, .bool false, .bool false, .bool false, .bool false, .bool false, .bool false, .bool false, .bool false, .bool false, .bool false, .bool false, .bool false, .bool false, .bool false, .bool false, .bool false, .bool false, .bool false], [.bool, .bool, .bool, .bool, .bool, .bool, .bool, .bool, .bool, .bool, .bool, .bool, .bool, .bool, .bool, .bool, .bool, .bool, .bool, .bool, .bool, .bool, .bool, .bool, .bool, .bool, .bool, .bool, .bool, .bool, .bool, .bool, .bool, .bool, .bool, .bool, .bool, .bool, .bool, .bool, .bool, .bool, .bool, .bool, .bool, .bool, .bool, .bool, .bool, .bool, .bool, .bool, .bool, .bool, .bool, .bool, .bool, .bool, .bool, .bool, .bool, .bool, .bool, .bool, .bool, .bool, .bool, .bool, .bool, .bool, .bool, .bool, .bool, .bool, .bool, .bool, .bool, .bool, .bool, .bool, .bool, .bool, .bool, .bool, .bool, .bool, .bool, .bool, .bool, .bool, .bool, .bool, .bool, .bool, .bool, .bool, .bool, .bool, .bool, .bool, .bool, .bool, .bool, .bool, .bool, .bool, .bool, .bool, .bool, .bool, .bool, .bool, .bool, .bool, .bool, .bool, .bool, .bool, .bool, .bool, .bool, .bool, .bool, .bool, .bool, .bool, .bool, .bool, .bool, .bool, .bool, .bool, .bool, .bool, .bool, .bool, .bool, .bool, .bool, .bool, .bool, .bool, .bool, .bool, .bool, .bool, .bool, .bool, .bool, .bool, .bool, .bool, .bool, .bool, .bool, .bool, .bool, .bool, .bool, .bool, .bool, .bool, .bool, .bool, .bool, .bool, .bool, .bool, .bool, .bool, .bool, .bool, .bool, .bool, .bool, .bool, .bool, .bool, .bool, .bool, .bool, .bool, .bool, .bool, .bool, .bool, .bool, .bool, .bool, .bool, .bool, .bool, .bool, .bool, .bool, .bool, .bool, .bool, .bool, .bool, .bool, .bool, .bool, .bool, .bool, .bool, .bool, .bool, .bool, .bool, .bool, .bool, .bool, .bool, .bool, .bool, .bool, .bool, .bool, .bool, .bool, .bool, .bool, .bool, .bool, .bool, .bool, .bool, .bool, .bool, .bool, .bool, .bool, .bool, .bool, .bool, .bool, .bool, .bool, .bool, .bool, .bool, .bool, .bool, .bool, .bool, .bool, .bool, .bool, .bool, .bool, .bool, .bool, .bool, .bool, .bool]⟩),
  (172, ⟨.func, 1, 8, [.nilFunc], []⟩),
  (173, ⟨.func, 1, 8, [.nilFunc], []⟩),
  (174, ⟨(.ptr 170), 1, 8, [.pointer none], []⟩),
  (175, ⟨.func, 1, 8, [.nilFunc], []⟩),
  (176, ⟨(.int .u32), 1, 4, [.int .u32 0], [.int .u32]⟩),
  (177, ⟨.func, 1, 8, [.nilFunc], []⟩),
  (178, ⟨(.ptr 208), 1, 8, [.pointer none], []⟩),
  (179, ⟨.func, 1, 8, [.nilFunc], []⟩),
  (180, ⟨.func, 1, 8, [.nilFunc], []⟩),
  (181, ⟨.func, 1, 8, [.nilFunc], []⟩),
  (182, ⟨.func, 1, 8, [.nilFunc], []⟩),
  (183, ⟨.func, 1, 8, [.nilFunc], []⟩),
  (184, ⟨.func, 1, 8, [.nilFunc], []⟩),
  (185, ⟨.func, 1, 8, [.nilFunc], []⟩),
  (186, ⟨.func, 1, 8, [.nilFunc], []⟩),
  (187, ⟨.func, 1, 8, [.nilFunc], []⟩),
  (188, ⟨(.array 24 5), 24, 24, [.int .u8 0, .int .u8 0, .int .u8 0, .int .u8 0, .int .u8 0, .int .u8 0, .int .u8 0, .int .u8 0, .int .u8 0, .int .u8 0, .int .u8 0, .int .u8 0, .int .u8 0, .int .u8 0, .int .u8 0, .int .u8 0, .int .u8 0, .int .u8 0, .int .u8 0, .int .u8 0, .int .u8 0, .int .u8 0, .int .u8 0, .int .u8 0], [.int .u8, .int .u8, .int .u8, .int .u8, .int .u8, .int .u8, .int .u8, .int .u8, .int .u8, .int .u8, .int .u8, .int .u8, .int .u8, .int .u8, .int .u8, .int .u8, .int .u8, .int .u8, .int .u8, .int .u8, .int .u8, .int .u8, .int .u8, .int .u8]⟩),
  (189, ⟨.func, 1, 8, [.nilFunc], []⟩),
  (190, ⟨.func, 1, 8, [.nilFunc], []⟩),
  (192, ⟨.func, 1, 8, [.nilFunc], []⟩),
  (193, ⟨.func, 1, 8, [.nilFunc], []⟩),
  (194, ⟨.func, 1, 8, [.nilFunc], []⟩),
  (195, ⟨.func, 1, 8, [.nilFunc], []⟩),
  (196, ⟨.func, 1, 8, [.nilFunc], []⟩),
  (197, ⟨.func, 1, 8, [.nilFunc], []⟩),
  (198, ⟨.func, 1, 8, [.nilFunc], []⟩),
  (199, ⟨.func, 1, 8, [.nilFunc], []⟩),
  (200, ⟨(.int .i64), 1, 8, [.int .i64 0], [.int .i64]⟩),
  (201, ⟨.func, 1, 8, [.nilFunc], []⟩),
  (202, ⟨(.ptr 228), 1, 8, [.pointer none], []⟩),
  (203, ⟨.func, 1, 8, [.nilFunc], []⟩),
  (204, ⟨.func, 1, 8, [.nilFunc], []⟩),
  (205, ⟨(.slice 210), 1, 24, [.slice none 0 0], []⟩),
  (206, ⟨(.slice 213), 1, 24, [.slice none 0 0], []⟩),
  (207, ⟨(.struct [(0, 205), (1, 206), (2, 3)]), 3, 56, [.slice none 0 0, .slice none 0 0, .int .i64 0], []⟩),
  (208, ⟨(.struct [(0, 205), (1, 206), (2, 3)]), 3, 56, [.slice none 0 0, .slice none 0 0, .int .i64 0], []⟩),
  (209, ⟨(.struct [(0, 22), (1, 22), (2, 22)]), 3, 6, [.int .u16 0, .int .u16 0, .int .u16 0], [.int .u16, .int .u16, .int .u16]⟩),
  (210, ⟨(.struct [(0, 22), (1, 22), (2, 22)]), 3, 6, [.int .u16 0, .int .u16 0, .int .u16 0], [.int .u16, .int .u16, .int .u16]⟩),
  (211, ⟨.func, 1, 8, [.nilFunc], []⟩),
  (212, ⟨(.struct [(0, 176), (1, 176), (2, 176)]), 3, 12, [.int .u32 0, .int .u32 0, .int .u32 0], [.int .u32, .int .u32, .int .u32]⟩),
  (213, ⟨(.struct [(0, 176), (1, 176), (2, 176)]), 3, 12, [.int .u32 0, .int .u32 0, .int .u32 0], [.int .u32, .int .u32, .int .u32]⟩),
  (214, ⟨.func, 1, 8, [.nilFunc], []⟩),
  (215, ⟨.func, 1, 8, [.nilFunc], []⟩),
  (216, ⟨.func, 1, 8, [.nilFunc], []⟩),
  (217, ⟨.func, 1, 8, [.nilFunc], []⟩),
  (218, ⟨.func, 1, 8, [.nilFunc], []⟩),
  (219, ⟨(.array 20 141), 20, 160, [.int .u64 0, .int .u64 0, .int .u64 0, .int .u64 0, .int .u64 0, .int .u64 0, .int .u64 0, .int .u64 0, .int .u64 0, .int .u64 0, .int .u64 0, .int .u64 0, .int .u64 0, .int .u64 0, .int .u64 0, .int .u64 0, .int .u64 0, .int .u64 0, .int .u64 0, .int .u64 0], [.int .u64, .int .u64, .int .u64, .int .u64, .int .u64, .int .u64, .int .u64, .int .u64, .int .u64, .int .u64, .int .u64, .int .u64, .int .u64, .int .u64, .int .u64, .int .u64, .int .u64, .int .u64, .int .u64, .int .u64]⟩),
  (220, ⟨(.array 65 5), 65, 65, [.int .u8 0, .int .u8 0, .int .u8 0, .int .u8 0, .int .u8 0, .int .u8 0, .int .u8 0, .int .u8 0, .int .u8 0, .int .u8 0, .int .u8 0, .int .u8 0, .int .u8 0, .int .u8 0, .int .u8 0, .int .u8 0, .int .u8 0, .int .u8 0, .int .u8 0, .int .u8 0, .int .u8 0, .int .u8 0, .int .u8 0, .int .u8 0, .int .u8 0, .int .u8 0, .int .u8 0, .int .u8 0, .int .u8 0, .int .u8 0, .int .u8 0, .int .u8 0, .int .u8 0, .int .u8 0, .int .u8 0, .int .u8 0, .int .u8 0, .int .u8 0, .int .u8 0, .int .u8 0, .int .u8 0, .int .u8 0, .int .u8 0, .int .u8 0, .int .u8 0, .int .u8 0, .int .u8 0, .int .u8 0, .int .u8 0, .int .u8 0, .int .u8 0, .int .u8 0, .int .u8 0, .int .u8 0, .int .u8 0, .int .u8 0, .int .u8 0, .int .u8 0, .int .u8 0, .int .u8 0, .int .u8 0, .int .u8 0, .int .u8 0, .int .u8 0, .int .u8 0], [.int .u8, .int .u8, .int .u8, .int .u8, .int .u8, .int .u8, .int .u8, .int .u8, .int .u8, .int .u8, .int .u8, .int .u8, .int .u8, .int .u8, .int .u8, .int .u8, .int .u8, .int .u8, .int .u8, .int .u8, .int .u8, .int .u8, .int .u8, .int .u8, .int .u8, .int .u8, .int .u8, .int .u8, .int .u8, .int .u8, .int .u8, .int .u8, .int .u8, .int .u8, .int .u8, .int .u8, .int .u8, .int .u8, .int .u8, .int .u8, .int .u8, .int .u8, .int .u8, .int .u8, .int .u8, .int .u8, .int .u8, .int .u8, .int .u8, .int .u8, .int .u8, .int .u8, .int .u8, .int .u8, .int .u8, .int .u8, .int .u8, .int .u8, .int .u8, .int .u8, .int .u8, .int .u8, .int .u8, .int .u8, .int .u8]⟩),
  (221, ⟨.func, 1, 8, [.nilFunc], []⟩),
  (222, ⟨.func, 1, 8, [.nilFunc], []⟩),
  (224, ⟨.func, 1, 8, [.nilFunc], []⟩),
  (225, ⟨.func, 1, 8, [.nilFunc], []⟩),
  (226, ⟨.func, 1, 8, [.nilFunc], []⟩),
  (227, ⟨(.struct [(0, 9), (1, 9), (2, 87)]), 3, 48, [.string ⟨#[]⟩, .string ⟨#[]⟩, .nilIface], []⟩),
  (228, ⟨(.struct [(0, 9), (1, 9), (2, 87)]), 3, 48, [.string ⟨#[]⟩, .string ⟨#[]⟩, .nilIface], []⟩),
  (229, ⟨.func, 1, 8, [.nilFunc], []⟩),
  (230, ⟨(.ptr 210), 1, 8, [.pointer none], []⟩),
  (231, ⟨(.ptr 213), 1, 8, [.pointer none], []⟩),
  (232, ⟨.func, 1, 8, [.nilFunc], []⟩),
  (233, ⟨.func, 1, 8, [.nilFunc], []⟩),
  (234, ⟨(.ptr 236), 1, 8, [.pointer none], []⟩),
  (235, ⟨(.struct [(0, 9)]), 1, 16, [.string ⟨#[]⟩], [.str]⟩),
  (236, ⟨(.struct [(0, 9)]), 1, 16, [.string ⟨#[]⟩], [.str]⟩),
  (237, ⟨.func, 1, 8, [.nilFunc], []⟩),
  (238, ⟨.func, 1, 8, [.nilFunc], []⟩),
  (239, ⟨(.array 32 5), 32, 32, [.int .u8 0, .int .u8 0, .int .u8 0, .int .u8 0, .int .u8 0, .int .u8 0, .int .u8 0, .int .u8 0, .int .u8 0, .int .u8 0, .int .u8 0, .int .u8 0, .int .u8 0, .int .u8 0, .int .u8 0, .int .u8 0, .int .u8 0, .int .u8 0, .int .u8 0, .int .u8 0, .int .u8 0, .int .u8 0, .int .u8 0, .int .u8 0, .int .u8 0, .int .u8 0, .int .u8 0, .int .u8 0, .int .u8 0, .int .u8 0, .int .u8 0, .int .u8 0], [.int .u8, .int .u8, .int .u8, .int .u8, .int .u8, .int .u8, .int .u8, .int .u8, .int .u8, .int .u8, .int .u8, .int .u8, .int .u8, .int .u8, .int .u8, .int .u8, .int .u8, .int .u8, .int .u8, .int .u8, .int .u8, .int .u8, .int .u8, .int .u8, .int .u8, .int .u8, .int .u8, .int .u8, .int .u8, .int .u8, .int .u8, .int .u8]⟩),
  (240, ⟨(.array 64 5), 64, 64, [.int .u8 0, .int .u8 0, .int .u8 0, .int .u8 0, .int .u8 0, .int .u8 0, .int .u8 0, .int .u8 0, .int .u8 0, .int .u8 0, .int .u8 0, .int .u8 0, .int .u8 0, .int .u8 0, .int .u8 0, .int .u8 0, .int .u8 0, .int .u8 0, .int .u8 0, .int .u8 0, .int .u8 0, .int .u8 0, .int .u8 0, .int .u8 0, .int .u8 0, .int .u8 0, .int .u8 0, .int .u8 0, .int .u8 0, .int .u8 0, .int .u8 0, .int .u8 0, .int .u8 0, .int .u8 0, .int .u8 0, .int .u8 0, .int .u8 0, .int .u8 0, .int .u8 0, .int .u8 0, .int .u8 0, .int .u8 0, .int .u8 0, .int .u8 0, .int .u8 0, .int .u8 0, .int .u8 0, .int .u8 0, .int .u8 0, .int .u8 0, .int .u8 0, .int .u8 0, .int .u8 0, .int .u8 0, .int .u8 0, .int .u8 0, .int .u8 0, .int .u8 0, .int .u8 0, .int .u8 0, .int .u8 0, .int .u8 0, .int .u8 0, .int .u8 0], [.int .u8, .int .u8, .int .u8, .int .u8, .int .u8, .int .u8, .int .u8, .int .u8, .int .u8, .int .u8, .int .u8, .int .u8, .int .u8, .int .u8, .int .u8, .int .u8, .int .u8, .int .u8, .int .u8, .int .u8, .int .u8, .int .u8, .int .u8, .int .u8, .int .u8, .int .u8, .int .u8, .int .u8, .int .u8, .int .u8, .int .u8, .int .u8, .int .u8, .int .u8, .int .u8, .int .u8, .int .u8, .int .u8, .int .u8, .int .u8, .int .u8, .int .u8, .int .u8, .int .u8, .int .u8, .int .u8, .int .u8, .int .u8, .int .u8, .int .u8, .int .u8, .int .u8, .int .u8, .int .u8, .int .u8, .int .u8, .int .u8, .int .u8, .int .u8, .int .u8, .int .u8, .int .u8, .int .u8, .int .u8]⟩),
  (242, ⟨.func, 1, 8, [.nilFunc], []⟩),
  (243, ⟨(.struct [(0, 17), (1, 17), (2, 17), (3, 9)]), 4, 40, [.pointer none, .pointer none, .pointer none, .string ⟨#[]⟩], []⟩),
  (244, ⟨(.struct [(0, 17), (1, 17), (2, 17), (3, 9)]), 4, 40, [.pointer none, .pointer none, .pointer none, .string ⟨#[]⟩], []⟩),
  (248, ⟨(.int .u8), 1, 1, [.int .u8 0], [.int .u8]⟩),
  (249, ⟨(.int .u8), 1, 1, [.int .u8 0], [.int .u8]⟩),
  (250, ⟨.func, 1, 8, [.nilFunc], []⟩),
  (251, ⟨(.int .i32), 1, 4, [.int .i32 0], [.int .i32]⟩),
  (252, ⟨(.int .i32), 1, 4, [.int .i32 0], [.int .i32]⟩),
  (253, ⟨(.struct [(0, 12), (1, 12), (2, 176), (3, 248), (4, 5), (5, 5), (6, 249), (7, 250), (8, 131), (9, 251), (10, 252)]), 11, 48, [.int .u64 0, .int .u64 0, .int .u32 0, .int .u8 0, .int .u8 0, .int .u8 0, .int .u8 0, .nilFunc, .pointer none, .int .i32 0, .int .i32 0], []⟩),
  (254, ⟨(.struct [(0, 12), (1, 12), (2, 176), (3, 248), (4, 5), (5, 5), (6, 249), (7, 250), (8, 131), (9, 251), (10, 252)]), 11, 48, [.int .u64 0, .int .u64 0, .int .u32 0, .int .u8 0, .int .u8 0, .int .u8 0, .int .u8 0, .nilFunc, .pointer none, .int .i32 0, .int .i32 0], []⟩)]
theorem Tryd.tabOk : TabOk Tryd.prog Tryd.tab := by unfold TabOk; kernel_rfl
def Tryd.deB : List Int := [0, 1, 56, 2, 57, 49, 28, 3, 61, 58, 42, 50, 38, 29, 17, 4, 62, 47, 59, 36, 45, 43, 51, 22, 53, 39, 33, 30, 24, 18, 12, 5, 63, 55, 48, 27, 60, 41, 37, 16, 46, 35, 44, 21, 52, 32, 23, 11, 54, 26, 40, 15, 34, 20, 31, 10, 25, 14, 19, 9, 13, 8, 7, 6]
def Tryd.gl : List (Nat × List D) := [(9, Tryd.deB.map fun n => .v (.int .u8 n))]
structure GP where
  ng : Nat
  G : World → Prop
  gl : List (Nat × List D)
  glOk : ∀ w, G w → GlOk ng gl w
  Gst : ∀ w w' : World, w'.os = w.os → (∀ b, b < ng → w'.heap[b]? = w.heap[b]?) → G w → G w'
theorem Tryd.mixed : Tryd.prog.follows .mixedOrders = true := by kernel_rfl
noncomputable def ax (g : GP) : Ax := { E := { P := Tryd.prog, ng := g.ng, G := g.G, gl := g.gl, glOk := g.glOk, Gst := g.Gst, mixed := Tryd.mixed }, tab := Tryd.tab, ok := Tryd.tabOk }
end Go.Ax

namespace Go.Ax
def B3_13 : List Nat := [0, 0, 3, 7, 15, 15, 15, 79, 239, 495, 1023, 2047, 4095, 8191, 8191, 8191, 40959, 122879, 253951, 524287, 8191, 1056767, 8191, 4202495, 15736831, 33554431, 67108863, 134217727, 268435455, 268435455, 805306367, 2147483647, 4294967295, 8589934591, 17179869183, 34359738367, 34359738367, 34359738367, 34359738367, 309237645311, 1065151889407, 2199023255551, 4398046511103, 8796093022207, 17592186044415, 35184372088831, 17592186044415, 140737488355327, 281474976710655, 562949953421311]
def B4_14 : List Nat := [0, 1, 0, 7, 15, 31, 31, 31, 255, 31, 31, 31, 4095, 8191, 16383, 32767, 65535, 65535, 262143, 65535, 65535, 2097151, 4194303, 8388607, 16777215, 33554431, 33554431, 134217727, 33554431, 33554431, 1073741823, 2147483647, 4294967295, 8589934591, 17179869183, 34359738367, 17179869183, 85899345919, 274877906943, 549755813887, 1099511627775, 2199023255551, 4398046511103, 2199023255551, 10995116277759, 35184372088831, 70368744177663, 140737488355327, 281474976710655, 281474976710655, 281474976710655, 1970324836974591, 281474976710655, 4785074604081151, 17732923532771327, 36028797018963967, 72057594037927935, 144115188075855871]
def B14_1 : List Nat := [0, 1, 0, 4, 3, 19, 63, 127]
def B17_4 : List Nat := [0, 0, 3, 7, 15, 31, 63, 127, 127, 511, 1023, 2047, 4095, 8191, 16383, 32767, 32767, 131071, 262143, 524287, 1048575, 2097151, 32767, 32767, 12615679, 29392895, 62947327, 134217727, 268435455]
def B18_4 : List Nat := [0, 0, 0, 6, 14, 30, 0, 0, 192, 448, 960, 2047, 4095]
def B28_1 : List Nat := [0, 1, 3, 7, 15, 31, 63, 127, 255, 31, 543, 2047, 4095, 8191]
def B46_4 : List Nat := [0, 1, 0, 4, 3, 31]
def B73_3 : List Nat := [0, 0, 3, 0, 0, 0, 32, 112, 248, 7, 1023, 2047]
end Go.Ax

namespace Go.Ax
theorem CallP.det {E : Env} {k : Kn} {f : FuncId} {args : List AV} {s : St} {K : AV → HL → Prop} {KP : List PanicEntry → HL → Prop} {res : AV} (h : Ctr E f args [] fun o => o = .ret res []) (hk : K res s.h) : CallP E k f args s K KP :=
  ⟨[], _, h, fun r o h => by simp [lkH] at h, fun res' ho e => by injection e with e1 e2; subst e1; subst e2; exact ⟨fun r o h => by simp [lkH] at h, hk⟩, fun ch ho e => by simp at e⟩
theorem CallD.det {E : Env} {f : FuncId} {args : List AV} {s : St} {K : AV → HL → HL → Prop} {PD : List PanicEntry → Prop} {res : AV} (h : Ctr E f args [] fun o => o = .ret res []) (hk : K res [] []) : CallD E f args s K PD :=
  ⟨[], res, [], h.mono fun _ h => .inl h, fun r o h => by simp [lkH] at h, hk⟩
theorem CallP.arg {E : Env} {k : Kn} {f : FuncId} {args args' : List AV} {s : St} {K : AV → HL → Prop} {KP : List PanicEntry → HL → Prop} (e : args = args') (h : CallP E k f args' s K KP) : CallP E k f args s K KP := e ▸ h
abbrev AV.i64 (n : Int) : AV := .d (.v (.int .i64 n))
abbrev AV.bool (b : Bool) : AV := .d (.v (.bool b))
abbrev AV.str (b : ByteArray) : AV := .d (.v (.string b))
abbrev D.i64 (n : Int) : D := .v (.int .i64 n)
abbrev D.u16 (n : Int) : D := .v (.int .u16 n)
theorem msl_eq {r n n' : Nat} (h : n = n') : AV.msl r n 0 n = AV.msl r n' 0 n' := by rw [h]
theorem AV.int_eq {k : IntKind} {a b : Int} (h : a = b) : (AV.d (.v (.int k a))) = .d (.v (.int k b)) := by rw [h]
theorem i64_wrap {n : Int} (h0 : -9223372036854775808 ≤ n) (h1 : n < 9223372036854775808) : IntKind.i64.wrap n = n := by rw [IntKind.wrap_i64]; omega
theorem i64_succ {n : Nat} (h1 : n < 9223372036854775807) : IntKind.i64.wrap ((n : Int) + 1) = ((n + 1 : Nat) : Int) := by rw [IntKind.wrap_i64]; omega
end Go.Ax

namespace Go.Ax
variable {X : Ax} {k : Kn}
theorem LoopP.inv {σ : Type} {body : Code} {Q : APost} {s : St} (st : σ → St) (I : σ → Prop) (μ : σ → Nat) (s0 : σ) (hI : I s0) (h0 : (st s0).Le s)
    (round : ∀ x, I x → wpc X.E X.tab k body (thenP (fun s' => ∃ x', I x' ∧ μ x' < μ x ∧ (st x').Le s') Q) (st x)) : LoopP X.E k body Q s :=
  ⟨AWp.loop (σ := { x : σ // I x }) (fun x => st x.1) (fun x => μ x.1) ⟨s0, hI⟩ h0 fun ⟨x, hx⟩ => AWp.mono (wpc_ok (round x hx)) fun e s' h => by
    cases e with
    | normal => obtain ⟨x', h1, h2, h3⟩ := h; exact ⟨⟨x', h1⟩, h2, h3⟩
    | _ => exact h⟩
theorem Sim.seen {c : Cx} {Im : Nat → Prop} {ρ : Nat → Option Loc} {F : Nat → AV} {H : Nat → Option AObj} {a : Act} {w : World} (S : Sim c Im ρ F H a w) {t : Nat} {x : AV} (hx : RA (hp w) Im ρ (a.tmps.getD t undef) x) : Sim c Im ρ (upd F t x) H a w where
  defs := S.defs
  nt := S.nt
  fr := fun u hu => by
    by_cases h : u = t
    · subst h; simpa using hx
    · rw [upd_ne _ _ h]; exact S.fr u hu
  obj := S.obj
  dis := S.dis
  imn := S.imn
  im0 := S.im0
  os := S.os
  tape := S.tape
  output := S.output
  size := S.size
  kept := S.kept
  anc := S.anc
theorem AWp.own {E : Env} {code : Code} {Q : APost} {s : St} (t r sz : Nat) (el : TypeId) (ht : Nat.blt t k.nt = true) (hl : lk t s.f = .d (.v (.slice none 0 0))) (hu : unmB k.anc r s = true)
    (h : AWp E k code Q { f := (t, .msl r 0 0 0) :: s.f, h := (r, some (.buf sz el [])) :: s.h }) : AWp E k code Q s := fun c ok hn ha Im ρ a w S => by
  have hv : a.tmps.getD t undef = .slice none 0 0 := by
    have := S.fr t (by rw [hn]; simpa using ht)
    simp only [St.F] at this
    rw [hl] at this
    exact this.v
  have S1 := S.new (w' := w) (r := r) (l := { blk := none, isBuf := true, sz := sz }) (o := .buf sz el []) (Grows.refl w _) (unmB_spec (by rw [ha]; exact hu)) (by simp [Loc.fp]) ⟨rfl, rfl, rfl, rfl, by simp, .inl ⟨rfl, rfl, rfl⟩⟩
  have S2 := S1.seen (t := t) (x := .msl r 0 0 0) (by
    rw [hv]
    refine .msl _ r 0 0 0 rfl fun l hl => ?_
    rw [upd_same] at hl; injection hl with hl; subst hl
    exact ⟨by simp, fun _ => rfl⟩)
  refine h c ok hn ha Im (upd ρ r (some { blk := none, isBuf := true, sz := sz })) a w ?_
  have e1 : (St.F { f := (t, .msl r 0 0 0) :: s.f, h := (r, some (.buf sz el [])) :: s.h }) = upd s.F t (.msl r 0 0 0) := lk_cons t _ s.f
  have e2 : (St.H { f := (t, .msl r 0 0 0) :: s.f, h := (r, some (.buf sz el [])) :: s.h }) = upd s.H r (some (.buf sz el [])) := lkH_cons r _ s.h
  rw [e1, e2]
  exact S2
theorem LoopP.own {E : Env} {code : Code} {Q : APost} {s : St} (t r sz : Nat) (el : TypeId) (ht : Nat.blt t k.nt = true) (hl : lk t s.f = .d (.v (.slice none 0 0))) (hu : unmB k.anc r s = true)
    (h : LoopP E k code Q { f := (t, .msl r 0 0 0) :: s.f, h := (r, some (.buf sz el [])) :: s.h }) : LoopP E k code Q s := ⟨.own t r sz el ht hl hu h.ok⟩
def frz (r sz : Nat) (els : List (List D)) : AV → AV
  | .msl q n off len => match Nat.beq q r, Nat.beq n els.length, Nat.ble (off + len) els.length with
    | true, true, true => .d (.sl false sz ((els.drop off).take len))
    | _, _, _ => .msl q n off len
  | x => x
theorem Ctr.freeze {E : Env} {f : FuncId} {args : List AV} {res : AV} (r sz : Nat) (el : TypeId) (els : List (List D)) (h : Ctr E f (args.map (frz r sz els)) [] fun o => o = .ret res []) : Ctr E f args [(r, some (.buf sz el els))] fun o => o = .ret res [] := by
  refine ⟨h.1, fun w Im ρ vs hG hIm hgl hsz hra hrel => ?_⟩
  obtain ⟨l, hl, hro, hown⟩ := hrel.obj r (.buf sz el els) (by simp [lkH])
  have hra1 : ∀ (i : Nat) (v : Value) (x : AV), vs[i]? = some v → (args.map (frz r sz els))[i]? = some x → RA (hp w) (fun b => Im b ∨ b ∈ l.fp) ρ v x := fun i v x h1 h2 => by
    simp only [List.getElem?_map, Option.map_eq_some_iff] at h2
    obtain ⟨y, hy, rfl⟩ := h2
    have h3 := hra i v y h1 hy
    have h4 : RA (hp w) (fun b => Im b ∨ b ∈ l.fp) ρ v y := h3.mono (fun _ h => .inl h) (fun _ _ => rfl) fun q _ l' hl' => ⟨l', hl', .inl rfl⟩
    unfold frz
    split
    · split
      · rename_i q n off len e1 e2 e3
        have := Nat.eq_of_beq_eq_true e1; subst this
        have := Nat.eq_of_beq_eq_true e2; subst this
        cases h3 with
        | msl _ _ _ _ _ _ hp2 =>
          have hv := (hp2 l hl).2 hro.2.2.2.1.symm
          rw [hv]
          exact .d _ _ (RD.ofBuf hro (fun _ h => .inl h) (fun b hb => .inr hb) (Nat.le_of_ble_eq_true e3))
      · exact h4
    · exact h4
  have := h.2 w (fun b => Im b ∨ b ∈ l.fp) (fun _ => none) vs hG (fun b hb => hb.elim (hIm b) fun hb => (hown b hb).1) (fun b hb => .inl (hgl b hb)) (by simpa using hsz) (fun i v x h1 h2 => (hra1 i v x h1 h2).mono (fun _ h => h) (fun _ _ => rfl) fun q hq l' hl' => by simp at hl') ⟨fun r o h => by simp [lkH] at h, fun r r' o o' l l' h => by simp [lkH] at h⟩
  have hT : ∀ b, TIn (fun _ => none) [] b → False := fun b ⟨r, o, l, h, _⟩ => by simp [lkH] at h
  have hTin : ∀ b ∈ l.fp, TIn ρ [(r, some (.buf sz el els))] b := fun b hb => ⟨r, .buf sz el els, l, by simp [lkH], hl, hb⟩
  refine this.mono fun e w' he => ?_
  cases e with
  | returned v =>
    obtain ⟨res', ho, Im', ρ', h1, h2, h3, A⟩ := he
    injection h1 with e1 e2; subst e1; subst e2
    refine ⟨res', [], Im', fun _ => none, rfl, h2.mono (fun _ h => h) (fun _ _ => rfl) (fun q hq l' hl' => by simp at hl'), h3, ?_⟩
    refine ⟨⟨A.grows.size, A.grows.os, A.grows.tape, A.grows.output, fun b hb hn => A.grows.block b hb fun h => hT b h⟩, fun b hb => A.im b (.inl hb), fun b hb => ?_, ⟨fun q o hq => by simp [lkH] at hq, fun q q' o o' l1 l2 hq => by simp [lkH] at hq⟩, fun q o hq l' hl' => by simp at hl', A.cl⟩
    obtain ⟨g1, g2⟩ := A.imn b hb
    refine ⟨g1, ?_⟩
    rcases g2 with (g2 | g2) | g2 | g2
    · exact .inl g2
    · exact .inr (.inr (hTin b g2))
    · exact .inr (.inl g2)
    · exact (hT b g2).elim
  | panicked ch =>
    obtain ⟨ho, Im', ρ', h1, h4⟩ := he
    exact absurd h1 (by simp)
  | outgrown => exact he
theorem CallP.give {E : Env} {k : Kn} {f : FuncId} {args : List AV} {s : St} {K : AV → HL → Prop} {KP : List PanicEntry → HL → Prop} {res : AV} (r sz : Nat) (el : TypeId) (els : List (List D)) (hr : lkH r s.h = some (.buf sz el els)) (h : Ctr E f (args.map (frz r sz els)) [] fun o => o = .ret res [])
    (hk : K res ((r, none) :: s.h)) : CallP E k f args s K KP :=
  ⟨[(r, some (.buf sz el els))], _, Ctr.freeze r sz el els h, fun q o hq => by
    simp only [lkH] at hq
    split at hq
    · rename_i hb
      have := Nat.eq_of_beq_eq_true hb; subst this
      injection hq with hq; subst hq; exact hr
    · simp at hq, fun res' ho e => by injection e with e1 e2; subst e1; subst e2; exact ⟨fun r o h => by simp [lkH] at h, hk⟩, fun ch ho e => by simp at e⟩
theorem CallD.give {E : Env} {f : FuncId} {args : List AV} {s : St} {K : AV → HL → HL → Prop} {PD : List PanicEntry → Prop} {res : AV} (r sz : Nat) (el : TypeId) (els : List (List D)) (hr : lkH r s.h = some (.buf sz el els)) (h : Ctr E f (args.map (frz r sz els)) [] fun o => o = .ret res [])
    (hk : K res [(r, some (.buf sz el els))] []) : CallD E f args s K PD :=
  ⟨[(r, some (.buf sz el els))], res, [], (Ctr.freeze r sz el els h).mono fun _ h => .inl h, fun q o hq => by
    simp only [lkH] at hq
    split at hq
    · rename_i hb
      have := Nat.eq_of_beq_eq_true hb; subst this
      injection hq with hq; subst hq; exact hr
    · simp at hq, hk⟩
theorem CallP.upd {E : Env} {k : Kn} {f : FuncId} {args : List AV} {s : St} {K : AV → HL → Prop} {KP : List PanicEntry → HL → Prop} {res : AV} {r : Nat} {ob ob' : AObj} (hr : lkH r s.h = some ob) (h : Ctr E f args [(r, some ob)] fun o => o = .ret res [(r, some ob')]) (hk : K res ((r, some ob') :: (r, none) :: s.h)) : CallP E k f args s K KP :=
  have one : ∀ {q o x}, lkH q [(r, some x)] = some o → q = r ∧ o = x := fun {q o x} hq => by
    simp only [lkH] at hq
    split at hq
    · rename_i hb; injection hq with hq; exact ⟨(Nat.eq_of_beq_eq_true hb).symm, hq.symm⟩
    · simp at hq
  ⟨[(r, some ob)], _, h, fun q o hq => by obtain ⟨rfl, rfl⟩ := one hq; exact hr, fun res' ho e => by
    injection e with e1 e2; subst e1; subst e2
    exact ⟨fun q o hq => .inl (by obtain ⟨rfl, rfl⟩ := one hq; exact ⟨ob, by simp [lkH]⟩), hk⟩, fun ch ho e => by simp at e⟩
theorem Ctr.le {E : Env} {f : FuncId} {args args' : List AV} {hin : HL} {post : AOut → Prop} (h : Ctr E f args hin post) (hl : args'.length = args.length)
    (hle : ∀ (w : World) (Im : Nat → Prop) (ρ : Nat → Option Loc) (i : Nat) (v : Value) (x y : AV), args'[i]? = some x → args[i]? = some y → RA (hp w) Im ρ v x → RA (hp w) Im ρ v y) : Ctr E f args' hin post :=
  ⟨h.1, fun w Im ρ vs g1 g2 g3 g4 g5 g6 => h.2 w Im ρ vs g1 g2 g3 (g4.trans hl) (fun i v y h1 h2 => by
    have hi : i < args'.length := by rw [hl]; exact (List.getElem?_eq_some_iff.1 h2).1
    exact hle w Im ρ i v _ y (List.getElem?_eq_getElem hi) h2 (g5 i v _ h1 (List.getElem?_eq_getElem hi))) g6⟩
theorem bsz (a : Array UInt8) : (ByteArray.mk a).size = a.size := rfl
def DLe (x y : D) : Prop := x = y ∨ (x = .v (.slice none 0 0) ∧ ∃ t sz, y = .sl t sz []) ∨ (∃ t sz els, x = .sl t sz els ∧ y = .sl false sz els)
theorem RD.le {h : Nat → Option Obj} {Im : Nat → Prop} {v : Value} {x y : D} (H : RD h Im v x) (hxy : DLe x y) : RD h Im v y := by
  rcases hxy with rfl | ⟨rfl, t, sz, rfl⟩ | ⟨t, sz, els, rfl, rfl⟩
  · exact H
  · cases H with
    | v _ _ => exact .nil t sz none 0 fun _ => rfl
  · exact H.loose
end Go.Ax

namespace Go.Ax
def swp (a b r : Nat) : Nat := match Nat.beq r a with
  | true => b
  | false => match Nat.beq r b with
    | true => a
    | false => r
theorem swp_eq (a b r : Nat) : swp a b r = if r = a then b else if r = b then a else r := by
  unfold swp
  by_cases h : r = a
  · subst h; simp
  · have h1 : Nat.beq r a = false := by
      cases hb : Nat.beq r a with
      | false => rfl
      | true => exact absurd (Nat.eq_of_beq_eq_true hb) h
    simp only [h1, if_neg h]
    by_cases h2 : r = b
    · subst h2; simp
    · have h3 : Nat.beq r b = false := by
        cases hb : Nat.beq r b with
        | false => rfl
        | true => exact absurd (Nat.eq_of_beq_eq_true hb) h2
      simp [h3, h2]
theorem swp_swp (a b r : Nat) : swp a b (swp a b r) = r := by
  simp only [swp_eq]
  by_cases h : r = a
  · subst h; by_cases h2 : b = r <;> simp [h2]
  · by_cases h2 : r = b
    · subst h2; simp [h]
    · simp [h, h2]
theorem swp_inj {a b x y : Nat} (h : swp a b x = swp a b y) : x = y := by rw [← swp_swp a b x, h, swp_swp]
mutual
def AV.swap (a b : Nat) : AV → AV
  | .junk => .junk
  | .d x => .d x
  | .dagg cs => .dagg cs
  | .agg cs => .agg (AV.swapL a b cs)
  | .tup vs => .tup (AV.swapL a b vs)
  | .ptr r off => .ptr (swp a b r) off
  | .ep cs => .ep cs
  | .msl r n off len => .msl (swp a b r) n off len
  | .mptr r n i j => .mptr (swp a b r) n i j
  | .mp r => .mp (swp a b r)
  | .clo fn f c => .clo fn (AV.swapL a b f) (AV.swapL a b c)
  | .ifc t x => .ifc t (AV.swap a b x)
def AV.swapL (a b : Nat) : List AV → List AV
  | [] => []
  | x :: xs => AV.swap a b x :: AV.swapL a b xs
end
def AObj.swap (a b : Nat) : AObj → AObj
  | .var cs => .var (AV.swapL a b cs)
  | .dvar n cs => .dvar n cs
  | .buf sz e els => .buf sz e els
  | .map ag es => .map ag es
  | .siter m p => .siter m p
  | .tvar t cs => .tvar t cs
  | .ext R => .ext R
  | .gst K h0 R => .gst K h0 R
def HL.swap (a b : Nat) : HL → HL
  | [] => []
  | (r, some o) :: h => (swp a b r, some (o.swap a b)) :: HL.swap a b h
  | (r, none) :: h => (swp a b r, none) :: HL.swap a b h
theorem swapL_get (a b : Nat) : ∀ (l : List AV) (i : Nat), (AV.swapL a b l)[i]? = (l[i]?).map (AV.swap a b)
  | [], i => by simp [AV.swapL]
  | x :: xs, 0 => by simp [AV.swapL]
  | x :: xs, i + 1 => by simp [AV.swapL, swapL_get a b xs i]
theorem swapL_length (a b : Nat) : ∀ (l : List AV), (AV.swapL a b l).length = l.length
  | [] => rfl
  | x :: xs => by simp [AV.swapL, swapL_length a b xs]
theorem RA.swap {h : Nat → Option Obj} {Im : Nat → Prop} {ρ ρ' : Nat → Option Loc} (a b : Nat) (hρ : ∀ r, ρ' (swp a b r) = ρ r) {v : Value} {x : AV} (H : RA h Im ρ v x) : RA h Im ρ' v (x.swap a b) := by
  induction H with
  | junk x => exact .junk x
  | d x y hd => exact .d x y hd
  | dagg cs l hl hr => exact .dagg cs l hl hr
  | agg cs l hl hr ih =>
    exact .agg cs _ (by rw [swapL_length]; exact hl) fun i v x h1 h2 => by
      rw [swapL_get, Option.map_eq_some_iff] at h2
      obtain ⟨y, hy, rfl⟩ := h2
      exact ih i v y h1 hy
  | tup cs l hl hr ih =>
    exact .tup cs _ (by rw [swapL_length]; exact hl) fun i v x h1 h2 => by
      rw [swapL_get, Option.map_eq_some_iff] at h2
      obtain ⟨y, hy, rfl⟩ := h2
      exact ih i v y h1 hy
  | ptr x r off h1 hp => exact .ptr x _ off h1 fun l hl => hp l (by rw [← hρ r]; exact hl)
  | ep b o cs f hb hc hr => exact .ep b o cs f hb hc hr
  | msl x r n off len h1 hp => exact .msl x _ n off len h1 fun l hl => hp l (by rw [← hρ r]; exact hl)
  | mptr x r n i j h1 hp => exact .mptr x _ n i j h1 fun l hl => hp l (by rw [← hρ r]; exact hl)
  | mp x r h1 hp => exact .mp x _ h1 fun l hl => hp l (by rw [← hρ r]; exact hl)
  | clo fn fs cs lf lc hf hc hrf hrc ihf ihc =>
    exact .clo fn fs cs _ _ (by rw [swapL_length]; exact hf) (by rw [swapL_length]; exact hc)
      (fun i v x h1 h2 => by
        rw [swapL_get, Option.map_eq_some_iff] at h2
        obtain ⟨y, hy, rfl⟩ := h2
        exact ihf i v y h1 hy) (fun i v x h1 h2 => by
        rw [swapL_get, Option.map_eq_some_iff] at h2
        obtain ⟨y, hy, rfl⟩ := h2
        exact ihc i v y h1 hy)
  | ifc t x y hx ih => exact .ifc t x _ ih
theorem RO.swap {h : Nat → Option Obj} {Im : Nat → Prop} {ρ ρ' : Nat → Option Loc} (a b : Nat) (hρ : ∀ r, ρ' (swp a b r) = ρ r) {l : Loc} {o : AObj} (H : RO h Im ρ l o) : RO h Im ρ' l (o.swap a b) := by
  cases o with
  | var cs =>
    refine ⟨H.1, H.2.1, ?_⟩
    obtain ⟨bk, ms, t, h1, h2, h3, h4⟩ := H.2.2
    refine ⟨bk, ms, t, h1, h2, by rw [swapL_length]; exact h3, fun i v hv x hx => ?_⟩
    rw [swapL_get, Option.map_eq_some_iff] at hx
    obtain ⟨y, hy, rfl⟩ := hx
    exact ⟨(h4 i v hv y hy).1.swap a b hρ, (h4 i v hv y hy).2⟩
  | dvar n cs => exact H
  | buf sz e els => exact H
  | map ag es => exact H
  | siter m p => exact H
  | tvar t cs => exact H
  | ext R => exact H
  | gst K h0 R => exact H
theorem lkH_swap (a b r : Nat) : ∀ (h : HL), lkH (swp a b r) (HL.swap a b h) = (lkH r h).map (AObj.swap a b)
  | [] => rfl
  | (q, some o) :: h => by
    simp only [HL.swap, lkH]
    by_cases e : q = r
    · subst e; simp
    · have h1 : Nat.beq q r = false := by
        cases hb : Nat.beq q r with
        | false => rfl
        | true => exact absurd (Nat.eq_of_beq_eq_true hb) e
      have h2 : Nat.beq (swp a b q) (swp a b r) = false := by
        cases hb : Nat.beq (swp a b q) (swp a b r) with
        | false => rfl
        | true => exact absurd (swp_inj (Nat.eq_of_beq_eq_true hb)) e
      simp only [h1, h2]; exact lkH_swap a b r h
  | (q, none) :: h => by
    simp only [HL.swap, lkH]
    by_cases e : q = r
    · subst e; simp
    · have h1 : Nat.beq q r = false := by
        cases hb : Nat.beq q r with
        | false => rfl
        | true => exact absurd (Nat.eq_of_beq_eq_true hb) e
      have h2 : Nat.beq (swp a b q) (swp a b r) = false := by
        cases hb : Nat.beq (swp a b q) (swp a b r) with
        | false => rfl
        | true => exact absurd (swp_inj (Nat.eq_of_beq_eq_true hb)) e
      simp only [h1, h2]; exact lkH_swap a b r h
theorem lkH_unswap {a b r : Nat} {h : HL} {o : AObj} (hr : lkH r (HL.swap a b h) = some o) : ∃ o', lkH (swp a b r) h = some o' ∧ o = o'.swap a b := by
  have := lkH_swap a b (swp a b r) h
  rw [swp_swp, hr] at this
  obtain ⟨o', h1, h2⟩ := Option.map_eq_some_iff.1 this.symm
  exact ⟨o', h1, h2.symm⟩
theorem ment_swap (a b : Nat) : ∀ (r : Nat) (x : AV), (x.swap a b).ment r = x.ment (swp a b r) := by
  have hb : ∀ q r, Nat.beq (swp a b q) r = Nat.beq q (swp a b r) := fun q r => by
    by_cases e : q = swp a b r
    · subst e; rw [swp_swp]; simp
    · have h1 : Nat.beq q (swp a b r) = false := by
        cases hb : Nat.beq q (swp a b r) with
        | false => rfl
        | true => exact absurd (Nat.eq_of_beq_eq_true hb) e
      have h2 : Nat.beq (swp a b q) r = false := by
        cases hb : Nat.beq (swp a b q) r with
        | false => rfl
        | true => exact absurd (by rw [← Nat.eq_of_beq_eq_true hb, swp_swp]) e
      rw [h1, h2]
  intro r x
  induction x using AV.rec (motive_2 := fun l => AV.ment.mentL r (AV.swapL a b l) = AV.ment.mentL (swp a b r) l) with
  | junk => rfl
  | d x => rfl
  | dagg cs => rfl
  | agg cs ih => simpa [AV.swap, AV.ment] using ih
  | tup cs ih => simpa [AV.swap, AV.ment] using ih
  | ptr q off => exact hb q r
  | ep cs => rfl
  | msl q n off len => exact hb q r
  | mptr q n i j => exact hb q r
  | mp q => exact hb q r
  | clo fn f c ih1 ih2 => simp only [AV.swap, AV.ment, ih1, ih2]
  | ifc t x ih => simpa [AV.swap, AV.ment] using ih
  | nil => rfl
  | cons x xs ih1 ih2 => simp only [AV.swapL, AV.ment.mentL, ih1, ih2]
theorem mentO_swap (a b r : Nat) (x : AObj) : (x.swap a b).ment r = x.ment (swp a b r) := by
  cases x with
  | var cs =>
    simp only [AObj.swap, AObj.ment]
    induction cs with
    | nil => rfl
    | cons x xs ih => simp only [AV.swapL, AV.ment.mentL, ih, ment_swap]
  | _ => rfl
theorem Ctr.swap {E : Env} {f : FuncId} {args : List AV} {hin ho : HL} {res : AV} (a b : Nat) (h : Ctr E f args hin fun o => o = .ret res ho) : Ctr E f (AV.swapL a b args) (HL.swap a b hin) fun o => o = .ret (res.swap a b) (HL.swap a b ho) := by
  refine ⟨h.1, fun w Im ρ vs hG hIm hgl hsz hra hrel => ?_⟩
  -- the names as the contract has them
  have back : ∀ x : AV, (x.swap a b).swap a b = x := by
    intro x
    induction x using AV.rec (motive_2 := fun l => AV.swapL a b (AV.swapL a b l) = l) with
    | junk => rfl
    | d x => rfl
    | dagg cs => rfl
    | agg cs ih => simp [AV.swap, ih]
    | tup cs ih => simp [AV.swap, ih]
    | ptr q off => simp [AV.swap, swp_swp]
    | ep cs => rfl
    | msl q n off len => simp [AV.swap, swp_swp]
    | mptr q n i j => simp [AV.swap, swp_swp]
    | mp q => simp [AV.swap, swp_swp]
    | clo fn f c ih1 ih2 => simp [AV.swap, ih1, ih2]
    | ifc t x ih => simp [AV.swap, ih]
    | nil => rfl
    | cons x xs ih1 ih2 => simp [AV.swapL, ih1, ih2]
  have backO : ∀ o : AObj, (o.swap a b).swap a b = o := fun o => by
    cases o with
    | var cs =>
      have : ∀ l : List AV, AV.swapL a b (AV.swapL a b l) = l := fun l => by induction l with
        | nil => rfl
        | cons x xs ih => simp [AV.swapL, ih, back]
      simp [AObj.swap, this]
    | _ => rfl
  have hρ : ∀ r, (fun q => ρ (swp a b q)) (swp a b r) = ρ r := fun r => by simp only [swp_swp]
  have hT : ∀ bk, TIn (fun q => ρ (swp a b q)) hin bk → TIn ρ (HL.swap a b hin) bk := fun bk ⟨r, o, l, h1, h2, h3⟩ => ⟨swp a b r, o.swap a b, l, by rw [lkH_swap, h1]; rfl, h2, h3⟩
  have hT' : ∀ bk, TIn ρ (HL.swap a b hin) bk → TIn (fun q => ρ (swp a b q)) hin bk := fun bk ⟨r, o, l, h1, h2, h3⟩ => by
    obtain ⟨o', h4, _⟩ := lkH_unswap h1
    exact ⟨swp a b r, o', l, h4, by simp only [swp_swp]; exact h2, h3⟩
  have := h.2 w Im (fun q => ρ (swp a b q)) vs hG hIm hgl (by rw [hsz, swapL_length]) (fun i v x h1 h2 => by
    have h3 := hra i v (x.swap a b) h1 (by rw [swapL_get, h2]; rfl)
    have h4 := h3.swap (ρ' := fun q => ρ (swp a b q)) a b hρ
    rw [back] at h4; exact h4) ⟨fun r o hr => by
      obtain ⟨l, h1, h2, h3⟩ := hrel.obj (swp a b r) (o.swap a b) (by rw [lkH_swap, hr]; rfl)
      have h4 := h2.swap (ρ' := fun q => ρ (swp a b q)) a b hρ
      rw [backO] at h4
      exact ⟨l, h1, h4, h3⟩, fun r r' o o' l l' h1 h2 hne g1 g2 => hrel.dis (swp a b r) (swp a b r') (o.swap a b) (o'.swap a b) l l' (by rw [lkH_swap, h1]; rfl) (by rw [lkH_swap, h2]; rfl) (fun e => hne (swp_inj e)) g1 g2⟩
  refine this.mono fun e w' he => ?_
  cases e with
  | returned v =>
    obtain ⟨res', ho', Im', ρ', h1, h2, h3, A⟩ := he
    injection h1 with e1 e2; subst e1; subst e2
    have hρ' : ∀ r, (fun q => ρ' (swp a b q)) (swp a b r) = ρ' r := fun r => by simp only [swp_swp]
    refine ⟨_, _, Im', fun q => ρ' (swp a b q), rfl, h2.swap a b hρ', fun r hr => ?_, ?_⟩
    · rw [ment_swap] at hr
      have := h3 _ hr
      rw [← swp_swp a b r, lkH_swap]
      simpa using this
    · refine ⟨⟨A.grows.size, A.grows.os, A.grows.tape, A.grows.output, fun bk hb hn => A.grows.block bk hb fun h => hn (hT bk h)⟩, A.im, fun bk hb => ⟨(A.imn bk hb).1, (A.imn bk hb).2.imp id fun h => h.imp id (hT bk)⟩, ⟨fun r o hr => ?_, fun r r' o o' l l' h1 h2 hne g1 g2 => ?_⟩, fun r o hr l' hl' => ?_, fun r o hr q hq => ?_⟩
      · obtain ⟨o', h4, rfl⟩ := lkH_unswap hr
        obtain ⟨l, h5, h6, h7⟩ := A.rel.obj _ o' h4
        exact ⟨l, h5, h6.swap a b hρ', fun bk hb => ⟨(h7 bk hb).1, (h7 bk hb).2.1, (h7 bk hb).2.2.imp id (hT bk)⟩⟩
      · obtain ⟨o1, h4, _⟩ := lkH_unswap h1
        obtain ⟨o2, h5, _⟩ := lkH_unswap h2
        exact A.rel.dis _ _ o1 o2 l l' h4 h5 (fun e => hne (swp_inj e)) g1 g2
      · obtain ⟨o', h4, _⟩ := lkH_unswap hr
        obtain ⟨l, h5, h6⟩ := A.anc _ o' h4 l' hl'
        simp only [swp_swp] at h5
        exact ⟨l, h5, h6⟩
      · obtain ⟨o', h4, rfl⟩ := lkH_unswap hr
        rw [mentO_swap] at hq
        have := A.cl _ o' h4 _ hq
        rw [← swp_swp a b q, lkH_swap]
        simpa using this
  | panicked ch =>
    obtain ⟨ho', Im', ρ', h1, h4⟩ := he
    exact absurd h1 (by simp)
  | outgrown => exact he
end Go.Ax

namespace Go.Ax
open Go.Proofs
set_option maxRecDepth 10000
theorem getD_map {α β : Type} (f : α → β) (l : List α) (i : Nat) (d : β) (h : i < l.length) : (l.map f).getD (i : Int).toNat d = f l[i] := by
  simp [List.getD, h]
end Go.Ax

namespace Go.Ax
variable {X : Ax} {k : Kn}
open Classical in
noncomputable def hat (K : Nat → Prop) (h0 h : Nat → Option Obj) : Nat → Option Obj := fun b => if K b then h0 b else h b
structure HeldAt (K : Nat → Prop) (ρ0 : Nat → Option Loc) (ids : List Nat) (H : HL) (more : List Nat) (h : Nat → Option Obj) (Im : Nat → Prop) (ρ : Nat → Option Loc) : Prop where
  k : ∀ b, K b → Im b
  im : ∀ b, Im b → K b ∨ b ∈ more
  obj : ∀ r o, lkH r H = some o → ∃ l, ρ r = some l ∧ RO h Im ρ l o ∧ ∀ b ∈ l.fp, ¬ Im b ∧ b ∈ more
  dis : ∀ r r' o o' l l', lkH r H = some o → lkH r' H = some o' → r ≠ r' → ρ r = some l → ρ r' = some l' → ∀ b ∈ l.fp, b ∉ l'.fp
  anc : ∀ r ∈ ids, ∀ l', ρ r = some l' → ∃ l, ρ0 r = some l ∧ LocStep l l'
def Held (K : Nat → Prop) (ρ0 : Nat → Option Loc) (ids : List Nat) (H : HL) (more : List Nat) (h : Nat → Option Obj) : Prop := ∃ Im ρ, HeldAt K ρ0 ids H more h Im ρ
def Runs (l : Nat) (K : Nat → Prop) (h0 : Nat → Option Obj) (ρ0 : Nat → Option Loc) (ids : List Nat) (S : Loop → HL → Prop) (lc : Loc) (h : Nat → Option Obj) : Prop :=
  lc.blk = some l ∧ l ∉ lc.more ∧ ∃ rc H, S rc H ∧ h l = some (.loop rc) ∧ Held K ρ0 ids H lc.more (hat K h0 h)
theorem Runs.stab {l : Nat} {K : Nat → Prop} {h0 : Nat → Option Obj} {ρ0 : Nat → Option Loc} {ids : List Nat} {S : Loop → HL → Prop} {lc : Loc} (h h' : Nat → Option Obj) (he : ∀ b ∈ lc.fp, h' b = h b) (H : Runs l K h0 ρ0 ids S lc h) : Runs l K h0 ρ0 ids S lc h' := by
  obtain ⟨h1, h2, rc, hl, h3, h4, Im, ρ, g⟩ := H
  have hfp : ∀ b, b ∈ lc.more → b ∈ lc.fp := fun b hb => by simp [Loc.fp, hb]
  have hh : ∀ b, (K b ∨ b ∈ lc.more) → hat K h0 h' b = hat K h0 h b := fun b hb => by
    unfold hat
    split
    · rfl
    · rename_i hk; exact he b (hfp b (hb.resolve_left hk))
  refine ⟨h1, h2, rc, hl, h3, (he l (by simp [Loc.fp, h1])).trans h4, Im, ρ, g.k, g.im, fun r o hr => ?_, g.dis, g.anc⟩
  obtain ⟨lo, e1, e2, e3⟩ := g.obj r o hr
  exact ⟨lo, e1, e2.mono (fun _ h => h) (fun b hb => hh b (g.im b hb)) (fun b hb => hh b (.inr (e3 b hb).2)) (fun q _ l' hl' => ⟨l', hl', .inl rfl⟩), e3⟩
def IterC (E : Env) (gf : FuncId) (caps : List AV) (hin : HL) {α : Type} (enc : α → Value) (xs : List α) : Prop :=
  ∀ (l : Nat) (K : Nat → Prop) (h0 : Nat → Option Obj) (R : List α → Loc → (Nat → Option Obj) → Prop) (Rx : Loc → (Nat → Option Obj) → Prop),
    (∀ pre x post, xs = pre ++ x :: post → YCtr E l [.d (.v (enc x))] [(9009, some (.gst K h0 (R pre)))] fun o => o = .ret (.d (.v (.bool true))) [(9009, some (.gst K h0 (R (pre ++ [x]))))] ∨ o = .ret (.d (.v (.bool false))) [(9009, some (.gst K h0 Rx))]) →
    Ctr E gf (.clo (.yield l) [] [] :: caps) ((9009, some (.gst K h0 (R []))) :: hin) fun o => ∃ res, o = .ret res [(9009, some (.gst K h0 (R xs)))] ∨ o = .ret res [(9009, some (.gst K h0 Rx))]
def roundQ (f0 : List (Nat × AV)) (h1 : HL) (Q : APost) : APost
  | .normal, s => LeH h1 s.h
  | .ret, s => lkH TOP s.h = none ∧ Q .ret { f := f0, h := s.h }
  | .exit id, s => lkH TOP s.h = none ∧ Q (.exit id) { f := f0, h := s.h }
  | _, _ => False
def Jumps (f0 : List (Nat × AV)) (Q : APost) : Code → HL → Prop
  | .ret, h => lkH TOP h = none ∧ Q .ret { f := f0, h }
  | .exit id, h => lkH TOP h = none ∧ Q (.exit id) { f := f0, h }
  | _, _ => False
abbrev recOf (fn : FuncId) (tmps : Array Value) (p : Tmp) (assign body : Code) (D : Nat) (st : LoopState) (pe : Option Code) : Loop := { state := st, pending := pe, fn, tmps, params := #[p], assign, body, defers := D }
theorem putObj_ne {w : World} {l b : Nat} {o : Obj} (h : b ≠ l) : hp (w.putObj l o) b = hp w b := World.putObj_heap_other h
theorem putObj_cells {w : World} {l b : Nat} {o : Obj} (ho : ∀ cs t fz, o ≠ .cells cs t fz) {cs : Array Value} {t : TypeId} {fz : Nat × Nat} (h : hp (w.putObj l o) b = some (.cells cs t fz)) : hp w b = some (.cells cs t fz) := by
  by_cases e : b = l
  · subst e
    have hlt : b < w.heap.size := by
      have := (Array.getElem?_eq_some_iff.1 (show (w.putObj b o).heap[b]? = _ from h)).1
      rwa [World.putObj_size] at this
    rw [show hp (w.putObj b o) b = some o from World.putObj_heap_same hlt] at h
    injection h with h; exact absurd h (ho cs t fz)
  · rwa [putObj_ne e] at h
theorem Sim.other {c c' : Cx} {Im : Nat → Prop} {ρ : Nat → Option Loc} {s : St} {a : Act} {w : World} (S : Sim c Im ρ s.F s.H a w) {l : Nat} {o : Obj} (hl : ∀ cs t fz, hp w l ≠ some (.cells cs t fz)) (ho : ∀ cs t fz, o ≠ .cells cs t fz) (hI : ¬ Im l) (hf : ∀ r o lo, s.H r = some o → ρ r = some lo → l ∉ lo.fp)
    (e1 : c'.w0 = w.putObj l o) (e2 : ∀ b, c'.fp b ↔ ∃ r o l, s.H r = some o ∧ ρ r = some l ∧ b ∈ l.fp) (e3 : c'.Im0 = Im) (e4 : c'.nt = c.nt) (e5 : c'.ρ0 = ρ) (e6 : c'.defs = a.defers) : Sim c' Im ρ s.F s.H a (w.putObj l o) := by
  have hh : ∀ b cs t fz, hp w b = some (.cells cs t fz) → hp (w.putObj l o) b = some (.cells cs t fz) := fun b cs t fz h => by
    rw [putObj_ne fun e => hl cs t fz (by rw [← e]; exact h)]; exact h
  have hrv : ∀ b cs t fz, hp (w.putObj l o) b = some (.cells cs t fz) → hp w b = some (.cells cs t fz) := fun b cs t fz h => putObj_cells ho h
  refine { defs := by rw [e6]; exact .none, nt := by rw [e4]; exact S.nt, fr := fun t ht => (S.fr t (by rw [← e4]; exact ht)).cell' hh, obj := fun r ob hr => ?_, dis := S.dis, imn := fun b hb => ⟨by rw [World.putObj_size]; exact (S.imn b hb).1, .inl (by rw [e3]; exact hb)⟩, im0 := fun b hb => by rw [e3] at hb; exact hb, os := by rw [e1], tape := by rw [e1], output := by rw [e1], size := by rw [e1]; exact Nat.le_refl _, kept := fun b _ _ => by rw [e1], anc := fun r _ l' hl' => ⟨l', by rw [e5]; exact hl', .inl rfl⟩ }
  obtain ⟨lo, g1, g2, g3⟩ := S.obj r ob hr
  exact ⟨lo, g1, g2.cell' hh hrv fun b hb => putObj_ne fun e => hf r ob lo hr g1 (e ▸ hb), fun b hb => ⟨by rw [World.putObj_size]; exact (g3 b hb).1, (g3 b hb).2.1, .inr ((e2 b).2 ⟨r, ob, lo, hr, g1, hb⟩)⟩⟩
theorem closed_nil {h : HL} {x : AV} (hx : ∀ r, x.ment r = false) : Closed h x := fun r hr => by rw [hx r] at hr; exact absurd hr (by simp)
theorem round_ok {α : Type} {enc : α → Value} {fn : FuncId} {a : Act} {p : Tmp} {assign body : Code} {D l : Nat} {K : Nat → Prop} {h0 : Nat → Option Obj} {ρ0 : Nat → Option Loc} {ids : List Nat} {f0 : List (Nat × AV)} {nt : Nat} {Q : APost} {H H' : HL} {x : α}
    (hKg : ∀ b, b < X.E.ng → K b) (hfr : ∀ t, t < nt → RA h0 K ρ0 (a.tmps.getD t undef) (lk t f0)) (hf0 : ∀ t r, (lk t f0).ment r = true → r ∈ ids) (hnt : a.tmps.size = nt) (hp1 : p < nt) (htop : TOP ∉ ids)
    (hround : AWp X.E { nt, anc := ids } assign (thenP (fun s1 => AWp X.E { nt, anc := ids } body (roundQ f0 H' Q) s1) (fun _ _ => False)) { f := (p, .d (.v (enc x))) :: f0, h := H }) :
    YCtr X.E l [.d (.v (enc x))] [(9009, some (.gst K h0 (Runs l K h0 ρ0 ids fun rc h => rc = recOf fn a.tmps p assign body D .ready none ∧ h = H)))] fun o =>
      o = .ret (.d (.v (.bool true))) [(9009, some (.gst K h0 (Runs l K h0 ρ0 ids fun rc h => rc = recOf fn a.tmps p assign body D .ready none ∧ h = H')))] ∨
      o = .ret (.d (.v (.bool false))) [(9009, some (.gst K h0 (Runs l K h0 ρ0 ids fun rc h => ∃ j, rc = recOf fn a.tmps p assign body D .done (some j) ∧ Jumps f0 Q j h)))] := by
  intro w Im ρ vs hG hIm hgl hsz hra hrel
  obtain ⟨lc, e1, ⟨hbuf, ⟨b0, hb0⟩, hK, hst, hR⟩, hown⟩ := hrel.obj 9009 _ rfl
  obtain ⟨hblk, hnl, rc, H0, ⟨hrc, hH⟩, hrec, Imr, ρr, g⟩ := hR
  subst hrc; subst hH
  have hlfp : l ∈ lc.fp := by simp [Loc.fp, hblk]
  have hmfp : ∀ b, b ∈ lc.more → b ∈ lc.fp := fun b hb => by simp [Loc.fp, hb]
  have hfpm : ∀ b, b ∈ lc.fp → b = l ∨ b ∈ lc.more := fun b hb => by simpa [Loc.fp, hblk] using hb
  have hKl : ¬ K l := fun h => (hown l hlfp).2.1 (hK l h).1
  have hIl : ¬ Imr l := fun h => (g.im l h).elim hKl hnl
  have hlw : l < w.heap.size := (hown l hlfp).1
  -- the value
  obtain ⟨v, rfl⟩ : ∃ v, vs = #[v] := by
    match vs, hsz with
    | ⟨[v]⟩, _ => exact ⟨v, rfl⟩
    | ⟨[]⟩, h => simp at h
    | ⟨_ :: _ :: _⟩, h => simp at h
  have hv0 := hra 0 v _ rfl rfl
  have hv := hv0.v
  have hv1 : (enc x).oneCell' = true := by rw [← hv]; exact hv0.d_inv.one
  subst hv
  -- the heap
  have hc1 : ∀ b cs t fz, hat K h0 (hp w) b = some (.cells cs t fz) → hp w b = some (.cells cs t fz) := fun b cs t fz h => by
    unfold hat at h
    split at h
    · rename_i hk; exact ((hK b hk).2 cs t fz).1 h
    · exact h
  have hc2 : ∀ b cs t fz, hp w b = some (.cells cs t fz) → hat K h0 (hp w) b = some (.cells cs t fz) := fun b cs t fz h => by
    unfold hat
    split
    · rename_i hk; exact ((hK b hk).2 cs t fz).2 h
    · exact h
  have hob : ∀ r o, lkH r H0 = some o → ∃ lo, ρr r = some lo ∧ RO (hp w) Imr ρr lo o ∧ ∀ b ∈ lo.fp, ¬ Imr b ∧ b ∈ lc.more := fun r o hr => by
    obtain ⟨lo, q1, q2, q3⟩ := g.obj r o hr
    refine ⟨lo, q1, q2.cell' hc1 hc2 fun b hb => ?_, q3⟩
    unfold hat
    rw [if_neg fun hk => (q3 b hb).1 (g.k b hk)]
  have hsize : ∀ b, b ∈ lc.more → b < w.heap.size := fun b hb => (hown b (hmfp b hb)).1
  have hImr : ∀ b, Imr b → b < w.heap.size := fun b hb => (g.im b hb).elim (fun h => hIm b (hK b h).1) (hsize b)
  let ca : Cx := { w0 := w, fp := fun b => ∃ r o lo, lkH r H0 = some o ∧ ρr r = some lo ∧ b ∈ lo.fp, Im0 := Imr, nt, anc := ids, ρ0 := ρr, defs := [], rnd := some l, marks := false }
  have hfa : ∀ b, ca.fp b → b ∈ lc.more ∧ ¬ Imr b := fun b ⟨r, o, lo, q1, q2, q3⟩ => by
    obtain ⟨lo', q4, _, q5⟩ := hob r o q1
    rw [q2] at q4; injection q4 with q4; subst q4
    exact ⟨(q5 b q3).2, (q5 b q3).1⟩
  have oka : ca.Ok X.E := ⟨fun b hb => ⟨hImr b hb, fun h => (hfa b h).2 hb⟩, fun b hb => g.k b (hKg b hb), hG, fun h => absurd h htop⟩
  let ar : Act := { tmps := a.tmps.setIfInBounds p (enc x), defers := [] }
  have Sa : Sim ca Imr ρr (St.F { f := (p, .d (.v (enc x))) :: f0, h := H0 }) (St.H { f := (p, .d (.v (enc x))) :: f0, h := H0 }) ar w := by
    refine { defs := .none, nt := by simpa [ar] using hnt, fr := fun t ht => ?_, obj := fun r o hr => ?_, dis := g.dis, imn := fun b hb => ⟨hImr b hb, .inl hb⟩, im0 := fun b hb => hb, os := rfl, tape := rfl, output := rfl, size := Nat.le_refl _, kept := fun _ _ _ => rfl, anc := fun r _ l' hl' => ⟨l', hl', .inl rfl⟩ }
    · have hg := getD_set a p t (enc x) (by rw [hnt]; exact hp1)
      have : ar.tmps.getD t undef = (a.put (some p) (enc x)).tmps.getD t undef := rfl
      rw [this, hg]
      simp only [St.F]
      by_cases h : t = p
      · subst h; rw [if_pos rfl]
        have : lk t ((t, AV.d (.v (enc x))) :: f0) = .d (.v (enc x)) := by simp [lk]
        rw [this]; exact .d _ _ (.v _ hv1)
      · rw [if_neg h]
        have h9 : lk t ((p, AV.d (.v (enc x))) :: f0) = upd (fun t => lk t f0) p (.d (.v (enc x))) t := congrFun (lk_cons p (.d (.v (enc x))) f0) t
        rw [h9, upd_ne _ _ h]
        have q1 := hfr t ht
        have q2 : RA (hat K h0 (hp w)) Imr ρr (a.tmps.getD t undef) (lk t f0) := q1.mono g.k (fun b hb => by unfold hat; rw [if_pos hb]) fun r hr l' hl' => g.anc r (hf0 t r hr) l' hl'
        exact q2.cell' hc1
    · obtain ⟨lo, q1, q2, q3⟩ := hob r o hr
      exact ⟨lo, q1, q2, fun b hb => ⟨hsize b (q3 b hb).2, (q3 b hb).1, .inr ⟨r, o, lo, hr, q1, hb⟩⟩⟩
  refine ⟨fn, ar.tmps, assign, body, ?_, ?_⟩
  · have := run_yield (P := X.E.P) (w := w) (l := l) (r := recOf fn a.tmps p assign body D .ready none) (args := #[enc x]) hrec rfl
    rw [this]; simp [ar]
  refine roundIn_of_wpIn (F := Fence.wide) trivial ?_
  refine wpIn_mono (hround ca oka rfl rfl Imr ρr ar w Sa) fun e a1 w1 ⟨hne, Im1, ρ1, s1, S1, hQ⟩ => ?_
  cases e with
  | normal =>
    have hl1 : hp w1 l = some (.loop (recOf fn a.tmps p assign body D .ready none)) := (S1.kept l hlw fun h => hnl (hfa l h).1).trans hrec
    have hI1 : ¬ Im1 l := fun h => by
      rcases (S1.imn l h).2 with q | q | q
      · exact hIl q
      · have q : w.heap.size ≤ l := q
        omega
      · exact hnl (hfa l q).1
    have hf1 : ∀ r o lo, s1.H r = some o → ρ1 r = some lo → l ∉ lo.fp := fun r o lo q1 q2 q3 => by
      obtain ⟨lo', q4, _, q5⟩ := S1.obj r o q1
      rw [q2] at q4; injection q4 with q4; subst q4
      rcases (q5 l q3).2.2 with q | q
      · have q : w.heap.size ≤ l := q
        omega
      · exact hnl (hfa l q).1
    refine ⟨_, run_beginRound hl1 rfl, ?_⟩
    generalize hw2 : w1.putObj l (.loop { recOf fn a.tmps p assign body D .ready none with state := .busy }) = w2
    let cb : Cx := { w0 := w2, fp := fun b => ∃ r o lo, s1.H r = some o ∧ ρ1 r = some lo ∧ b ∈ lo.fp, Im0 := Im1, nt, anc := ids, ρ0 := ρ1, defs := a1.defers, rnd := some l, marks := false }
    have S2 : Sim cb Im1 ρ1 s1.F s1.H a1 w2 := by
      rw [← hw2]
      exact S1.other (c' := cb) (by rw [hl1]; simp) (by simp) hI1 hf1 hw2.symm (fun b => Iff.rfl) rfl rfl rfl rfl
    have hs2 : w2.heap.size = w1.heap.size := by rw [← hw2, World.putObj_size]
    have h21 : ∀ b, b ≠ l → hp w2 b = hp w1 b := fun b h => by rw [← hw2]; exact putObj_ne h
    have hl2 : hp w2 l = some (.loop { recOf fn a.tmps p assign body D .ready none with state := .busy }) := by
      rw [← hw2]; exact World.putObj_heap_same (Array.getElem?_eq_some_iff.1 hl1).1
    have hfb : ∀ b, cb.fp b → (b ∈ lc.more ∨ w.heap.size ≤ b) ∧ ¬ Im1 b ∧ b < w1.heap.size := fun b ⟨r, o, lo, q1, q2, q3⟩ => by
      obtain ⟨lo', q4, _, q5⟩ := S1.obj r o q1
      rw [q2] at q4; injection q4 with q4; subst q4
      exact ⟨(q5 b q3).2.2.elim .inr fun h => .inl (hfa b h).1, (q5 b q3).2.1, (q5 b q3).1⟩
    have okb : cb.Ok X.E := ⟨fun b hb => ⟨by rw [hs2]; exact (S1.imn b hb).1, fun h => (hfb b h).2.1 hb⟩, fun b hb => S1.im0 b (g.k b (hKg b hb)),
      X.E.Gst w1 w2 (by rw [← hw2]; rfl) (fun b hb => h21 b fun e => hKl (e ▸ hKg b hb)) (S1.G oka), fun h => absurd h htop⟩
    refine wpIn_mono (hQ cb okb rfl rfl Im1 ρ1 a1 w2 S2) fun e2 a3 w3 ⟨hne2, Im3, ρ3, s3, S3, hQ3⟩ => ?_
    have hl3 : hp w3 l = some (.loop { recOf fn a.tmps p assign body D .ready none with state := .busy }) := (S3.kept l (by rw [hs2]; exact (Array.getElem?_eq_some_iff.1 hl1).1) fun h => by
      rcases (hfb l h).1 with q | q
      · exact hnl q
      · omega).trans hl2
    have hs : w.heap.size ≤ w1.heap.size := S1.size
    have hs3 : w1.heap.size ≤ w3.heap.size := by rw [← hs2]; exact S3.size
    have hnew : ∀ b, cb.fp b ∨ w2.heap.size ≤ b → b ∈ lc.more ∨ w.heap.size ≤ b := fun b h => h.elim (fun h => (hfb b h).1) fun h => .inr (by omega)
    have hIm3 : ∀ b, Im3 b → K b ∨ b ∈ lc.more ∨ w.heap.size ≤ b := fun b hb => by
      rcases (S3.imn b hb).2 with q | q | q
      · rcases (S1.imn b q).2 with q | q | q
        · exact (g.im b q).imp id .inl
        · exact .inr (.inr q)
        · exact .inr (.inl (hfa b q).1)
      · exact .inr (hnew b (.inr q))
      · exact .inr (hnew b (.inl q))
    -- what a round leaves
    have fin : ∀ (rc : Loop) (hx : HL) (S' : Loop → HL → Prop), S' rc hx → (∀ r o, lkH r hx = some o → lkH r s3.h = some o) → After w Im ρ [(9009, some (.gst K h0 (Runs l K h0 ρ0 ids fun rc h => rc = recOf fn a.tmps p assign body D .ready none ∧ h = H0)))] (w3.putObj l (.loop rc)) Im
        (upd ρ 9009 (some { lc with more := lc.more ++ List.range' w.heap.size (w3.heap.size - w.heap.size) })) [(9009, some (.gst K h0 (Runs l K h0 ρ0 ids S')))] := fun rc hx S' hS hle => by
      have hmore : ∀ b, b ∈ lc.more ∨ (w.heap.size ≤ b ∧ b < w3.heap.size) → b ∈ lc.more ++ List.range' w.heap.size (w3.heap.size - w.heap.size) := fun b h => by
        simp only [List.mem_append, List.mem_range'_1]
        rcases h with h | h
        · exact .inl h
        · exact .inr (by omega)
      have hmore2 : ∀ b, b ∈ lc.more ++ List.range' w.heap.size (w3.heap.size - w.heap.size) → b ∈ lc.more ∨ (w.heap.size ≤ b ∧ b < w3.heap.size) := fun b h => by
        simp only [List.mem_append, List.mem_range'_1] at h
        rcases h with h | h
        · exact .inl h
        · exact .inr (by omega)
      have hT : ∀ b, TIn ρ [(9009, some (.gst K h0 (Runs l K h0 ρ0 ids fun rc h => rc = recOf fn a.tmps p assign body D .ready none ∧ h = H0)))] b ↔ b ∈ lc.fp := fun b => by
        constructor
        · rintro ⟨r, o, lo, q1, q2, q3⟩
          have : r = 9009 := by
            by_cases h : r = 9009
            · exact h
            · simp only [lkH] at q1
              have : Nat.beq 9009 r = false := by
                cases hb : Nat.beq 9009 r with
                | false => rfl
                | true => exact absurd (Nat.eq_of_beq_eq_true hb).symm h
              rw [this] at q1; simp at q1
          subst this
          rw [e1] at q2; injection q2 with q2; subst q2; exact q3
        · intro h; exact ⟨9009, _, lc, rfl, e1, h⟩
      have hgb : ∀ b, b < w.heap.size → b ∉ lc.fp → hp (w3.putObj l (.loop rc)) b = hp w b := fun b hb hn => by
        have hbl : b ≠ l := fun e => hn (e ▸ hlfp)
        have hnm : b ∉ lc.more := fun h => hn (hmfp b h)
        rw [putObj_ne hbl]
        refine (S3.kept b (by rw [hs2]; omega) fun h => ?_).trans ((h21 b hbl).trans (S1.kept b hb fun h => hnm (hfa b h).1))
        rcases (hfb b h).1 with q | q
        · exact hnm q
        · omega
      have hKn : ∀ b, K b → b ∉ lc.fp := fun b hk h => (hown b h).2.1 (hK b hk).1
      refine ⟨⟨by rw [World.putObj_size]; omega, ?_, ?_, ?_, fun b hb hn => hgb b hb fun h => hn ((hT b).2 h)⟩, fun b hb => hb, fun b hb => ⟨by rw [World.putObj_size]; have := hIm b hb; omega, .inl hb⟩, ⟨fun r o hr => ?_, fun r r' o o' q q' h1 h2 hne => ?_⟩, fun r o hr q' hq' => ?_, fun r o hr q hq => ?_⟩
      · exact (show w3.os = w2.os from S3.os).trans ((show w2.os = w1.os from by rw [← hw2]; rfl).trans S1.os)
      · exact (show w3.tape = w2.tape from S3.tape).trans ((show w2.tape = w1.tape from by rw [← hw2]; rfl).trans S1.tape)
      · exact (show w3.output = w2.output from S3.output).trans ((show w2.output = w1.output from by rw [← hw2]; rfl).trans S1.output)
      · -- the object
        have hr9 : r = 9009 := by
          by_cases h : r = 9009
          · exact h
          · simp only [lkH] at hr
            have : Nat.beq 9009 r = false := by
              cases hb : Nat.beq 9009 r with
              | false => rfl
              | true => exact absurd (Nat.eq_of_beq_eq_true hb).symm h
            rw [this] at hr; simp at hr
        subst hr9
        have hr : some (AObj.gst K h0 (Runs l K h0 ρ0 ids S')) = some o := hr
        injection hr with hr; subst hr
        refine ⟨_, upd_same .., ⟨hbuf, ⟨b0, hb0⟩, fun b hb => ⟨(hK b hb).1, fun cs t fz => ?_⟩, fun _ _ => Runs.stab _ _, hblk, ?_, rc, hx, hS, ?_, Im3, ρ3, ?_⟩, fun b hb => ?_⟩
        · rw [hgb b (hIm b (hK b hb).1) (hKn b hb)]; exact (hK b hb).2 cs t fz
        · intro h
          rcases hmore2 l h with h | h
          · exact hnl h
          · omega
        · exact World.putObj_heap_same (by omega)
        · have hw4 : ∀ b, K b → hp w3 b = hp w b := fun b hk => by
            have := hgb b (hIm b (hK b hk).1) (hKn b hk)
            rwa [putObj_ne fun e : b = l => hKl (by rw [← e]; exact hk)] at this
          have hcf : ∀ b cs t fz, hp w3 b = some (.cells cs t fz) → hat K h0 (hp (w3.putObj l (.loop rc))) b = some (.cells cs t fz) := fun b cs t fz hc => by
            have hbl : b ≠ l := fun e => by rw [e, hl3] at hc; simp at hc
            unfold hat
            split
            · rename_i hk
              rw [hw4 b hk] at hc
              exact ((hK b hk).2 cs t fz).2 hc
            · rw [putObj_ne hbl]; exact hc
          have hcb : ∀ b cs t fz, hat K h0 (hp (w3.putObj l (.loop rc))) b = some (.cells cs t fz) → hp w3 b = some (.cells cs t fz) := fun b cs t fz hc => by
            unfold hat at hc
            split at hc
            · rename_i hk
              rw [hw4 b hk]
              exact ((hK b hk).2 cs t fz).1 hc
            · exact putObj_cells (by simp) hc
          refine ⟨fun b hb => S3.im0 b (S1.im0 b (g.k b hb)), fun b hb => (hIm3 b hb).imp id fun h => hmore b (h.imp id fun h => ⟨h, (S3.imn b hb).1⟩), fun r o hr => ?_, fun r r' o o' q q' h1 h2 => S3.dis r r' o o' q q' (hle r o h1) (hle r' o' h2), fun r hr l' hl' => ?_⟩
          · obtain ⟨lo, q1, q2, q3⟩ := S3.obj r o (hle r o hr)
            have q4 : ∀ b ∈ lo.fp, b ∈ lc.more ∨ (w.heap.size ≤ b ∧ b < w3.heap.size) := fun b hb => (hnew b ((q3 b hb).2.2.symm)).imp id fun h => ⟨h, (q3 b hb).1⟩
            have q5 : ∀ b ∈ lo.fp, b ≠ l := fun b hb e => by
              subst e
              rcases q4 b hb with h | h
              · exact hnl h
              · omega
            refine ⟨lo, q1, q2.cell' hcf hcb fun b hb => ?_, fun b hb => ⟨(q3 b hb).2.1, hmore b (q4 b hb)⟩⟩
            unfold hat
            rw [if_neg fun hk => (q3 b hb).2.1 (S3.im0 b (S1.im0 b (g.k b hk))), putObj_ne (q5 b hb)]
          · obtain ⟨l1, q1, q2⟩ := S3.anc r hr l' hl'
            obtain ⟨l2, q3, q4⟩ := S1.anc r hr l1 q1
            obtain ⟨l3, q5, q6⟩ := g.anc r hr l2 q3
            exact ⟨l3, q5, (q6.trans q4).trans q2⟩
        · have : b ∈ lc.fp ∨ (w.heap.size ≤ b ∧ b < w3.heap.size) := by
            have hb : b = l ∨ b ∈ lc.more ++ List.range' w.heap.size (w3.heap.size - w.heap.size) := by simpa [Loc.fp, hblk] using hb
            rcases hb with rfl | hb
            · exact .inl hlfp
            · exact (hmore2 b hb).imp (hmfp b) id
          rw [World.putObj_size]
          rcases this with h | h
          · exact ⟨by have := (hown b h).1; omega, (hown b h).2.1, .inr ((hT b).2 h)⟩
          · exact ⟨h.2, fun hi => by have := hIm b hi; omega, .inl h.1⟩
      · -- but one object
        have one : ∀ r o, lkH r [(9009, some (AObj.gst K h0 (Runs l K h0 ρ0 ids S')))] = some o → r = 9009 := fun r o hr => by
          by_cases h : r = 9009
          · exact h
          · simp only [lkH] at hr
            have : Nat.beq 9009 r = false := by
              cases hb : Nat.beq 9009 r with
              | false => rfl
              | true => exact absurd (Nat.eq_of_beq_eq_true hb).symm h
            rw [this] at hr; simp at hr
        exact absurd ((one r o h1).trans (one r' o' h2).symm) hne
      · have hr9 : r = 9009 := by
          by_cases h : r = 9009
          · exact h
          · simp only [lkH] at hr
            have : Nat.beq 9009 r = false := by
              cases hb : Nat.beq 9009 r with
              | false => rfl
              | true => exact absurd (Nat.eq_of_beq_eq_true hb).symm h
            rw [this] at hr; simp at hr
        subst hr9
        rw [upd_same] at hq'; injection hq' with hq'; subst hq'
        exact ⟨lc, e1, .inr (.inr ⟨hbuf, _, rfl⟩)⟩
      · by_cases h : Nat.beq 9009 r = true
        · simp only [lkH, h] at hr; injection hr with hr; subst hr; simp [AObj.ment] at hq
        · simp only [lkH, Bool.eq_false_iff.2 h] at hr; simp at hr
    cases e2 with
    | normal =>
      exact ⟨_, _, run_endRound none hl3, .inl rfl |> fun h => ⟨_, _, Im, _, h, RA.intv _ rfl, closed_nil fun _ => rfl, fin _ H' _ ⟨rfl, rfl⟩ fun r o h => LeH.at hQ3 r o h⟩⟩
    | ret =>
      exact ⟨_, _, run_endRound (some .ret) hl3, .inr rfl |> fun h => ⟨_, _, Im, _, h, RA.intv _ rfl, closed_nil fun _ => rfl, fin _ s3.h _ ⟨.ret, rfl, hQ3⟩ (fun _ _ h => h)⟩⟩
    | exit id =>
      exact ⟨_, _, run_endRound (some (.exit id)) hl3, .inr rfl |> fun h => ⟨_, _, Im, _, h, RA.intv _ rfl, closed_nil fun _ => rfl, fin _ s3.h _ ⟨.exit id, rfl, hQ3⟩ (fun _ _ h => h)⟩⟩
    | goto t => exact hQ3.elim
    | panic ch => exact hQ3.elim
    | outgrown => exact absurd rfl hne2
  | outgrown => exact absurd rfl hne
  | exit id => exact hQ.elim
  | goto t => exact hQ.elim
  | ret => exact hQ.elim
  | panic ch => exact hQ.elim
set_option maxHeartbeats 2000000 in
theorem AWp.rangeFunc {α : Type} {enc : α → Value} {tg p : Nat} {assign body : Code} {Q : APost} {s : St} {gf : FuncId} {caps : List AV} (hin : HL) (xs : List α) (inv : List α → HL) (ids : List Nat) (f0 : List (Nat × AV))
    (hT : TOP ∈ k.anc) (htg : tg < k.nt) (hp1 : p < k.nt) (hg : lk tg s.f = .clo (.func gf) [] caps) (hit : IterC X.E gf caps hin enc xs) (hu : unmB k.anc 9009 s = true)
    (hhin : ∀ r o, lkH r hin = some o → lkH r s.h = some o) (hinv : ∀ r o, lkH r (inv []) = some o → lkH r s.h = some o ∧ lkH r hin = none) (hf0 : ∀ t, lk t f0 = .junk ∨ lk t f0 = lk t s.f) (hcl : ∀ t r, (lk t f0).ment r = true → r ∈ ids)
    (hids : ∀ r ∈ k.anc, r = TOP ∨ r ∈ ids) (htop : TOP ∉ ids) (hinvT : ∀ pre, lkH TOP (inv pre) = none)
    (hround : ∀ pre x post, xs = pre ++ x :: post → AWp X.E { nt := k.nt, anc := ids } assign (thenP (fun s1 => AWp X.E { nt := k.nt, anc := ids } body (roundQ f0 (inv (pre ++ [x])) Q) s1) (fun _ _ => False)) { f := (p, .d (.v (enc x))) :: f0, h := inv pre })
    (hdone : Q .normal { f := f0, h := inv xs }) : AWp X.E k (.rangeFunc (.tmp tg) #[p] assign body) Q s := fun c ok hn ha Im ρ a w S => by
  obtain ⟨hrnd, hmk⟩ := ok.top (ha ▸ hT)
  have hu9 := unmB_spec (c := c) (by rw [ha]; exact hu)
  refine wpIn_rangeFunc ?_
  intro fn _
  have hro : c.fence.round = none := hrnd
  rw [hro]
  -- what is called
  have hra := S.fr tg (by rw [hn]; exact htg)
  simp only [St.F] at hra
  rw [hg] at hra
  have hm9 : ∀ x ∈ caps, x.ment 9009 = false := fun x hx => by
    have h9 := hu9.fr tg
    simp only [St.F] at h9
    rw [hg] at h9
    cases hb : x.ment 9009 with
    | false => rfl
    | true =>
      obtain ⟨i, hi⟩ := List.getElem?_of_mem hx
      simp only [AV.ment, Bool.or_eq_false_iff] at h9
      rw [AV.mentL_of hi hb] at h9
      exact absurd h9.2 (by simp)
  have hev : a.eval (.tmp tg) = a.tmps.getD tg undef := rfl
  generalize hv : a.tmps.getD tg undef = v at hra
  cases hra with
  | clo _ fs cs _ _ hfs hcs _ hrc =>
  have efs : fs = #[] := Array.eq_empty_of_size_eq_zero (by simpa using hfs)
  subst efs
  -- the world at the call
  generalize hl : w.heap.size + 1 = l
  generalize hrecd : (Loop.mk .ready none fn a.tmps #[p] assign body w.heap.size) = rec0
  generalize hW1 : (w.alloc (.deferred (some []))).alloc (.loop rec0) = W1
  have hsz1 : W1.heap.size = w.heap.size + 2 := by rw [← hW1]; simp
  have hold : ∀ b, b < w.heap.size → hp W1 b = hp w b := fun b hb => by
    rw [← hW1]
    exact (heap_alloc_old _ _ b (by simp; omega)).trans (heap_alloc_old w _ b hb)
  have hD1 : hp W1 w.heap.size = some (.deferred (some [])) := by
    rw [← hW1]
    exact (heap_alloc_old _ _ _ (by simp)).trans (World.alloc_heap_new w _)
  have hl1 : hp W1 l = some (.loop rec0) := by
    rw [← hW1, ← hl]
    have := World.alloc_heap_new (w.alloc (.deferred (some []))) (.loop rec0)
    rwa [World.size_alloc] at this
  -- the loop's objects
  let more0 : List Nat := ((inv []).map (·.1)).flatMap fun r => if (lkH r (inv [])).isSome then ((ρ r).map Loc.fp).getD [] else []
  have hmore0 : ∀ b, b ∈ more0 ↔ ∃ r o lo, lkH r (inv []) = some o ∧ ρ r = some lo ∧ b ∈ lo.fp := fun b => by
    simp only [more0, List.mem_flatMap, List.mem_map]
    constructor
    · rintro ⟨r, ⟨q, hq, hr⟩, hb⟩
      split at hb
      · rename_i hs
        obtain ⟨o, ho⟩ := Option.isSome_iff_exists.1 hs
        cases hρ : ρ r with
        | none => rw [hρ] at hb; simp at hb
        | some lo => rw [hρ] at hb; exact ⟨r, o, lo, ho, hρ, by simpa using hb⟩
      · simp at hb
    · rintro ⟨r, o, lo, h1, h2, h3⟩
      obtain ⟨q, hq, hr⟩ := lkH_mem h1
      refine ⟨r, ⟨q, hq, hr⟩, ?_⟩
      rw [if_pos (by rw [h1]; rfl), h2]; simpa using h3
  have hm0 : ∀ b, b ∈ more0 → b < w.heap.size ∧ ¬ Im b ∧ (c.w0.heap.size ≤ b ∨ c.fp b) := fun b hb => by
    obtain ⟨r, o, lo, h1, h2, h3⟩ := (hmore0 b).1 hb
    obtain ⟨lo', q1, _, q3⟩ := S.obj r o (hinv r o h1).1
    rw [h2] at q1; injection q1 with q1; subst q1
    exact q3 b h3
  let lc0 : Loc := { blk := some l, more := more0 }
  let ρ1 : Nat → Option Loc := upd ρ 9009 (some lc0)
  have hlfp : ∀ b, b ∈ lc0.fp ↔ b = l ∨ b ∈ more0 := fun b => by simp [Loc.fp, lc0]
  let R : List α → Loc → (Nat → Option Obj) → Prop := fun pre => Runs l Im (hp W1) ρ ids fun rc h => rc = recOf fn a.tmps p assign body w.heap.size .ready none ∧ h = inv pre
  let Rx : Loc → (Nat → Option Obj) → Prop := Runs l Im (hp W1) ρ ids fun rc h => ∃ j, rc = recOf fn a.tmps p assign body w.heap.size .done (some j) ∧ Jumps f0 Q j h
  have hImw : ∀ b, Im b → b < w.heap.size := fun b hb => (S.imn b hb).1
  have hIW : ∀ b, Im b → hp W1 b = hp w b := fun b hb => hold b (hImw b hb)
  have hnt : a.tmps.size = k.nt := by rw [S.nt, hn]
  have hfr : ∀ t, t < k.nt → RA (hp W1) Im ρ (a.tmps.getD t undef) (lk t f0) := fun t ht => by
    have h1 := S.fr t (by rw [hn]; exact ht)
    simp only [St.F] at h1
    rcases hf0 t with h | h
    · rw [h]; exact .junk _
    · rw [h]; exact h1.mono (fun _ h => h) hIW fun r _ l' hl' => ⟨l', hl', .inl rfl⟩
  have hKg : ∀ b, b < X.E.ng → Im b := fun b hb => S.im0 b (ok.gl b hb)
  have hctr := hit l Im (hp W1) R Rx fun pre x post hx => round_ok (H' := inv (pre ++ [x])) hKg hfr hcl hnt hp1 htop (hround pre x post hx)
  -- the objects handed in
  have hne9 : ∀ r o, lkH r hin = some o → r ≠ 9009 := fun r o h e => by
    subst e
    have := hhin _ o h
    have h9 := hu9.none
    simp only [St.H] at h9
    rw [h9] at this; exact absurd this (by simp)
  have hlk9 : ∀ r o, lkH r ((9009, some (AObj.gst Im (hp W1) (R []))) :: hin) = some o → (r = 9009 ∧ o = .gst Im (hp W1) (R [])) ∨ (r ≠ 9009 ∧ lkH r hin = some o) := fun r o h => by
    have h9 : lkH r ((9009, some (AObj.gst Im (hp W1) (R []))) :: hin) = upd (fun r => lkH r hin) 9009 (some (AObj.gst Im (hp W1) (R []))) r := congrFun (lkH_cons 9009 (some (AObj.gst Im (hp W1) (R []))) hin) r
    rw [h9] at h
    by_cases e : r = 9009
    · subst e; rw [upd_same] at h; injection h with h; exact .inl ⟨rfl, h.symm⟩
    · rw [upd_ne _ _ e] at h; exact .inr ⟨e, h⟩
  have hTin : ∀ b, TIn ρ1 ((9009, some (AObj.gst Im (hp W1) (R []))) :: hin) b → b = l ∨ (b < w.heap.size ∧ ¬ Im b ∧ (c.w0.heap.size ≤ b ∨ c.fp b)) := fun b ⟨r, o, lo, h1, h2, h3⟩ => by
    rcases hlk9 r o h1 with ⟨rfl, rfl⟩ | ⟨e, h1⟩
    · have : some lc0 = some lo := (upd_same ρ 9009 (some lc0)).symm.trans h2
      injection this with this; subst this
      exact ((hlfp b).1 h3).imp id (hm0 b)
    · have h2 : ρ r = some lo := (upd_ne ρ (some lc0) e).symm.trans h2
      obtain ⟨lo', q1, _, q3⟩ := S.obj r o (hhin r o h1)
      rw [h2] at q1; injection q1 with q1; subst q1
      exact .inr (q3 b h3)
  have hhat : hat Im (hp W1) (hp W1) = hp W1 := by funext b; unfold hat; split <;> rfl
  have hroW : ∀ r o lo, s.H r = some o → ρ r = some lo → RO (hp w) Im ρ lo o → (∀ b ∈ lo.fp, b < w.heap.size) → RO (hp W1) Im ρ1 lo o := fun r o lo h1 h2 h3 h4 => by
    refine h3.mono (fun _ h => h) hIW (fun b hb => hold b (h4 b hb)) fun q hq l' hl' => ?_
    have e : q ≠ 9009 := fun e => by subst e; rw [hu9.obj r o h1] at hq; exact absurd hq (by simp)
    exact ⟨l', (upd_ne ρ (some lc0) e).symm.trans hl', .inl rfl⟩
  have hrel : HRel W1 Im ρ1 ((9009, some (AObj.gst Im (hp W1) (R []))) :: hin) (fun _ => True) := by
    refine ⟨fun r o h => ?_, fun r r' o o' lo lo' h1 h2 hne e1 e2 b hb hb' => ?_⟩
    · rcases hlk9 r o h with ⟨rfl, rfl⟩ | ⟨e, h⟩
      · refine ⟨lc0, upd_same .., ⟨rfl, ⟨l, rfl⟩, fun b hb => ⟨hb, fun _ _ _ => Iff.rfl⟩, fun _ _ => Runs.stab _ _, rfl, ?_, _, _, ⟨rfl, rfl⟩, ?_, Im, ρ, ?_⟩, fun b hb => ?_⟩
        · intro h; have := (hm0 l h).1; omega
        · rw [hl1, ← hrecd]
        · rw [hhat]
          refine ⟨fun _ h => h, fun _ h => .inl h, fun r o hr => ?_, fun r r' o o' lo lo' h1 h2 => S.dis r r' o o' lo lo' (hinv r o h1).1 (hinv r' o' h2).1, fun r _ l' hl' => ⟨l', hl', .inl rfl⟩⟩
          obtain ⟨lo, q1, q2, q3⟩ := S.obj r o (hinv r o hr).1
          exact ⟨lo, q1, q2.mono (fun _ h => h) hIW (fun b hb => hold b (q3 b hb).1) (fun q _ l' hl' => ⟨l', hl', .inl rfl⟩), fun b hb => ⟨(q3 b hb).2.1, (hmore0 b).2 ⟨r, o, lo, hr, q1, hb⟩⟩⟩
        · rcases (hlfp b).1 hb with rfl | h
          · exact ⟨by omega, fun h => by have := hImw _ h; omega, trivial⟩
          · exact ⟨by have := (hm0 b h).1; omega, (hm0 b h).2.1, trivial⟩
      · obtain ⟨lo, q1, q2, q3⟩ := S.obj r o (hhin r o h)
        exact ⟨lo, (upd_ne ρ (some lc0) e).trans q1, hroW r o lo (hhin r o h) q1 q2 fun b hb => (q3 b hb).1, fun b hb => ⟨by have := (q3 b hb).1; omega, (q3 b hb).2.1, trivial⟩⟩
    · have key : ∀ r o lo b, r ≠ 9009 → lkH r hin = some o → ρ1 r = some lo → b ∈ lo.fp → b ∉ lc0.fp := fun r o lo b e h1 h2 h3 h4 => by
        have h2 : ρ r = some lo := (upd_ne ρ (some lc0) e).symm.trans h2
        obtain ⟨lo', q1, _, q3⟩ := S.obj r o (hhin r o h1)
        rw [h2] at q1; injection q1 with q1; subst q1
        rcases (hlfp b).1 h4 with rfl | h4
        · have := (q3 _ h3).1; omega
        · obtain ⟨r2, o2, lo2, g1, g2, g3⟩ := (hmore0 b).1 h4
          have hne2 : r ≠ r2 := fun e => by subst e; rw [(hinv _ _ g1).2] at h1; exact absurd h1 (by simp)
          exact S.dis r r2 o o2 lo lo2 (hhin r o h1) (hinv r2 o2 g1).1 hne2 h2 g2 b h3 g3
      rcases hlk9 r o h1 with ⟨rfl, rfl⟩ | ⟨e, h1⟩
      · have : some lc0 = some lo := (upd_same ρ 9009 (some lc0)).symm.trans e1
        injection this with this; subst this
        rcases hlk9 r' o' h2 with ⟨rfl, _⟩ | ⟨e', h2⟩
        · exact hne rfl
        · exact key r' o' lo' b e' h2 e2 hb' hb
      · rcases hlk9 r' o' h2 with ⟨rfl, _⟩ | ⟨e', h2⟩
        · have : some lc0 = some lo' := (upd_same ρ 9009 (some lc0)).symm.trans e2
          injection this with this; subst this
          exact key r o lo b e h1 e1 hb hb'
        · exact S.dis r r' o o' lo lo' (hhin r o h1) (hhin r' o' h2) hne ((upd_ne ρ (some lc0) e).symm.trans e1) ((upd_ne ρ (some lc0) e').symm.trans e2) b hb hb'
  have hGW : X.E.G W1 := X.E.Gst w W1 (by rw [← hW1]; rfl) (fun b hb => hIW b (hKg b hb)) (S.G ok)
  have hcalls := hctr.2 W1 Im ρ1 (#[.func (.yield l) #[] #[]] ++ cs) hGW (fun b hb => by have := hImw b hb; omega) hKg (by simp [hcs]; omega) (fun i v x h1 h2 => by
    cases i with
    | zero =>
      rw [Array.getElem?_append_left (by simp)] at h1
      have e1 : v = .func (.yield l) #[] #[] := by simpa using h1.symm
      have e2 : x = .clo (.yield l) [] [] := by simpa using h2.symm
      subst e1; subst e2; exact .clo _ _ _ _ _ rfl rfl (by simp) (by simp)
    | succ i =>
      rw [Array.getElem?_append_right (by simp)] at h1
      have h2 : caps[i]? = some x := by simpa using h2
      have hx := hrc i v x (by simpa using h1) h2
      exact hx.mono (fun _ h => h) hIW fun q hq l' hl' => ⟨l', (upd_ne ρ (some lc0) (fun e => by subst e; rw [hm9 x (List.mem_of_getElem? h2)] at hq; exact absurd hq (by simp))).symm.trans hl', .inl rfl⟩) hrel
  refine ⟨l, [markD w.heap.size], W1, { target := .fn (.func gf) cs, args := #[.func (.yield l) #[] #[]] }, W1, gf, #[.func (.yield l) #[] #[]] ++ cs, W1, ?_, ?_, fun _ _ => trivial, ?_, fun h => by simp [Fence.wide] at h, ?_⟩
  · rw [← hl, ← hW1, ← hrecd]; exact run_enterLoop_outer _ _ _ _ _
  · simp [resolve, Deferred.ofValue, hv, Act.eval]
  · simp [invoke, run_callFunc hctr.1]
  refine callsIn_fence c ?_
  refine hcalls.mono fun e w3 he => ?_
  -- behind the loop
  cases e with
  | panicked ch => obtain ⟨ho, Im', ρ', ⟨res, hpost⟩, _⟩ := he; exact absurd hpost (by simp)
  | outgrown => exact he.elim
  | returned v3 =>
    obtain ⟨res, ho, Im', ρ', ⟨res', hpost⟩, _, _, haft⟩ := he
    obtain ⟨S', hho, hS'⟩ : ∃ S' : Loop → HL → Prop, ho = [(9009, some (.gst Im (hp W1) (Runs l Im (hp W1) ρ ids S')))] ∧ ∀ rc h, S' rc h → (rc = recOf fn a.tmps p assign body w.heap.size .ready none ∧ h = inv xs) ∨ ∃ j, rc = recOf fn a.tmps p assign body w.heap.size .done (some j) ∧ Jumps f0 Q j h := by
      rcases hpost with hpost | hpost
      · injection hpost with _ h; exact ⟨_, h, fun rc h h' => .inl h'⟩
      · injection hpost with _ h; exact ⟨_, h, fun rc h h' => .inr h'⟩
    subst hho
    obtain ⟨lc3, _, ⟨_, _, hK3, _, hblk3, hnl3, rc, H3, hSr, hl3, Im2, ρ2, g⟩, hown3⟩ := haft.rel.obj 9009 _ rfl
    have hmfp : ∀ b, b ∈ lc3.more → b ∈ lc3.fp := fun b hb => by simp [Loc.fp, hb]
    have hKn : ∀ b, Im b → ¬ TIn ρ1 ((9009, some (AObj.gst Im (hp W1) (R []))) :: hin) b := fun b hb h => by
      rcases hTin b h with rfl | h
      · have := hImw _ hb; omega
      · exact h.2.1 hb
    have hI3 : ∀ b, Im b → hp w3 b = hp w b := fun b hb => (haft.grows.block b (by have := hImw b hb; omega) (hKn b hb)).trans (hIW b hb)
    have hD3 : hp w3 w.heap.size = some (.deferred (some [])) := (haft.grows.block _ (by omega) fun h => by
      rcases hTin _ h with h | h
      · omega
      · omega).trans hD1
    have hls : l < w3.heap.size := by have := haft.grows.size; omega
    have hm3 : ∀ b, b ∈ lc3.more → b < w3.heap.size ∧ b ≠ w.heap.size ∧ b ≠ l ∧ (c.w0.heap.size ≤ b ∨ c.fp b) := fun b hb => by
      obtain ⟨q1, q2, q3⟩ := hown3 b (hmfp b hb)
      have hs := S.size
      refine ⟨q1, ?_, fun e => hnl3 (e ▸ hb), ?_⟩
      · rcases q3 with q3 | q3
        · omega
        · rcases hTin b q3 with q | q
          · omega
          · omega
      · rcases q3 with q3 | q3
        · exact .inl (by omega)
        · rcases hTin b q3 with q | q
          · exact .inl (by omega)
          · exact q.2.2
    have hbusy : rc.state ≠ .busy := by
      rcases hS' rc H3 hSr with ⟨h, _⟩ | ⟨j, h, _⟩ <;> (rw [h]; simp)
    have hend := run_endLoop (P := X.E.P) (w := w3) hl3 hbusy
    generalize hw5 : w3.putObj l (.loop { rc with state := .exhausted }) = w5 at hend
    have h53 : ∀ b, b ≠ l → hp w5 b = hp w3 b := fun b h => by rw [← hw5]; exact putObj_ne h
    have hs5 : w5.heap.size = w3.heap.size := by rw [← hw5, World.putObj_size]
    have hhat3 : hat Im (hp W1) (hp w3) = hp w3 := by
      funext b; unfold hat
      split
      · rename_i hb; rw [hI3 b hb, hIW b hb]
      · rfl
    have hTop3 : lkH TOP H3 = none := by
      rcases hS' rc H3 hSr with ⟨_, h⟩ | ⟨j, _, h⟩
      · rw [h]; exact hinvT xs
      · cases j <;> first | exact h.1 | exact h.elim
    let ImF : Nat → Prop := fun b => Im2 b ∨ b = w.heap.size
    let ρF : Nat → Option Loc := fun r => if r = TOP then none else ρ2 r
    have hρF : ∀ r, r ≠ TOP → ρF r = ρ2 r := fun r h => if_neg h
    have hne3 : ∀ r o, lkH r H3 = some o → r ≠ TOP := fun r o h e => by subst e; rw [hTop3] at h; exact absurd h (by simp)
    have hF2 : ∀ r l', ρF r = some l' → r ≠ TOP ∧ ρ2 r = some l' := fun r l' h => by
      by_cases e : r = TOP
      · simp [ρF, e] at h
      · exact ⟨e, by rwa [hρF r e] at h⟩
    have hancF : ∀ r ∈ ids, ∀ l', ρF r = some l' → ∃ l, ρ r = some l ∧ LocStep l l' := fun r hr l' h => g.anc r hr l' (hF2 r l' h).2
    have hIml : ¬ Im2 l := fun h => by
      rcases g.im l h with h | h
      · have := hImw l h; omega
      · exact hnl3 h
    have S5 : Sim c ImF ρF (St.F { f := f0, h := H3 }) (St.H { f := f0, h := H3 }) { a with defers := [markD w.heap.size] ++ a.defers } w5 := by
      refine { defs := ?_, nt := S.nt, fr := fun t ht => ?_, obj := fun r o hr => ?_, dis := fun r r' o o' lo lo' h1 h2 hne e1 e2 => g.dis r r' o o' lo lo' h1 h2 hne (hF2 r lo e1).2 (hF2 r' lo' e2).2, imn := fun b hb => ?_, im0 := fun b hb => .inl (g.k b (S.im0 b hb)), os := ?_, tape := ?_, output := ?_, size := ?_, kept := fun b hb hf => ?_, anc := fun r hr l' hl' => ?_ }
      · obtain ⟨ms, d1, d2, d3, d4⟩ := S.defs
        refine ⟨w.heap.size :: ms, by simp [d1], fun _ => hmk, List.nodup_cons.2 ⟨fun h => by have := hImw _ (d4 _ h).2.1; omega, d3⟩, fun D hD => ?_⟩
        rcases List.mem_cons.1 hD with rfl | hD
        · exact ⟨S.size, .inr rfl, (h53 _ (by omega)).trans hD3⟩
        · obtain ⟨q1, q2, q3⟩ := d4 D hD
          exact ⟨q1, .inl (g.k D q2), by rw [h53 D (by have := hImw D q2; omega), hI3 D q2]; exact q3⟩
      · have h1 := hfr t (by rw [← hn]; exact ht)
        refine h1.mono (fun b hb => .inl (g.k b hb)) (fun b hb => by rw [h53 b (by have := hImw b hb; omega), hI3 b hb, hIW b hb]) fun r hr l' hl' => hancF r (hcl t r hr) l' hl'
      · obtain ⟨lo, q1, q2, q3⟩ := g.obj r o hr
        rw [hhat3] at q2
        have q4 := q2.mono (ρ' := ρF) (fun _ h => h) (fun _ _ => rfl) (fun _ _ => rfl) (fun q _ l' hl' => ⟨l', (hF2 q l' hl').2, .inl rfl⟩)
        have q5 : RO (hp w5) ImF ρF lo o := q4.mono (fun b h => .inl h) (fun b hb => h53 b fun e => hIml (e ▸ hb)) (fun b hb => h53 b (hm3 b (q3 b hb).2).2.2.1) fun q _ l' hl' => ⟨l', hl', .inl rfl⟩
        refine ⟨lo, (hρF r (hne3 r o hr)).trans q1, q5, fun b hb => ?_⟩
        obtain ⟨r1, r2, r3, r4⟩ := hm3 b (q3 b hb).2
        exact ⟨by rw [hs5]; exact r1, fun h => h.elim (q3 b hb).1 r2, r4⟩
      · have hs := S.size
        rcases hb with hb | rfl
        · rcases g.im b hb with hb | hb
          · have := S.imn b hb
            exact ⟨by rw [hs5]; omega, this.2⟩
          · obtain ⟨r1, r2, r3, r4⟩ := hm3 b hb
            exact ⟨by rw [hs5]; exact r1, .inr r4⟩
        · exact ⟨by rw [hs5]; omega, .inr (.inl hs)⟩
      · exact (show w5.os = w3.os from by rw [← hw5]; rfl).trans (haft.grows.os.trans ((show W1.os = w.os from by rw [← hW1]; rfl).trans S.os))
      · exact (show w5.tape = w3.tape from by rw [← hw5]; rfl).trans (haft.grows.tape.trans ((show W1.tape = w.tape from by rw [← hW1]; rfl).trans S.tape))
      · exact (show w5.output = w3.output from by rw [← hw5]; rfl).trans (haft.grows.output.trans ((show W1.output = w.output from by rw [← hW1]; rfl).trans S.output))
      · have := S.size; have := haft.grows.size; omega
      · have hs := S.size
        refine (h53 b (by omega)).trans ((haft.grows.block b (by omega) fun h => ?_).trans ((hold b (by omega)).trans (S.kept b hb hf)))
        rcases hTin b h with q | ⟨_, _, q | q⟩
        · omega
        · omega
        · exact hf q
      · obtain ⟨e, h2⟩ := hF2 r l' hl'
        rcases hids r (ha ▸ hr) with h | h
        · exact absurd h e
        · obtain ⟨l1, q1, q2⟩ := g.anc r h l' h2
          obtain ⟨l2, q3, q4⟩ := S.anc r hr l1 q1
          exact ⟨l2, q3, q4.trans q2⟩
    refine ⟨rc.pending, w5, hend, ?_⟩
    rcases hS' rc H3 hSr with ⟨h, hH⟩ | ⟨j, h, hH⟩
    · subst h; subst hH
      exact ⟨by simp, ImF, ρF, _, S5, hdone⟩
    · subst h
      cases j <;> first | exact hH.elim | skip
      · exact wpIn_exit ⟨by simp, ImF, ρF, _, S5, hH.2⟩
      · exact wpIn_ret ⟨by simp, ImF, ρF, _, S5, hH.2⟩
theorem YieldP.two {E : Env} {l : Nat} {args : List AV} {s : St} {K : AV → HL → Prop} {hin h1 h2 : HL} {r1 r2 : AV} (h : YCtr E l args hin fun o => o = .ret r1 h1 ∨ o = .ret r2 h2) (hle : LeH hin s.h) (e1 : h1.all (fun p => (lkH p.1 hin).isSome) = true) (e2 : h2.all (fun p => (lkH p.1 hin).isSome) = true)
    (k1 : K r1 (h1 ++ (killed hin ++ s.h))) (k2 : K r2 (h2 ++ (killed hin ++ s.h))) : YieldP E k l args s K :=
  ⟨hin, _, h, fun r o hr => LeH.at hle r o hr, fun ch ho h => by simp at h, fun res ho h => by
    have key : ∀ hh : HL, hh.all (fun p => (lkH p.1 hin).isSome) = true → ∀ r o, lkH r hh = some o → ∃ o', lkH r hin = some o' := fun hh e r o hr => by
      obtain ⟨p, q1, q2⟩ := lkH_mem hr
      have := List.all_eq_true.1 e p q1
      rw [q2] at this
      exact Option.isSome_iff_exists.1 this
    rcases h with h | h
    · injection h with a b; subst a; subst b; exact ⟨fun r o hr => .inl (key _ e1 r o hr), k1⟩
    · injection h with a b; subst a; subst b; exact ⟨fun r o hr => .inl (key _ e2 r o hr), k2⟩⟩
end Go.Ax

namespace Go.Ax
variable {X : Ax} {k : Kn}
theorem Ctr.bodyT {f : FuncId} {fn : Func} {args : List AV} {hin : HL} {post : AOut → Prop} (code : Code) (nt : Nat) (anc : List Nat) (rs : List ResultVar) (hf : X.E.P.funcs[f]? = some fn) (hb : fn.body = some code) (hnt : fn.ntmps = nt) (hanc : hin.map (·.1) = anc) (hrs : fn.results.toList = rs) (hname : (fn.name == "runtime.NumGoroutine") = false) (hargs : Nat.ble args.length nt = true) (hres : rs.all (resIn nt) = true)
    (h : wpc X.E X.tab { nt, anc := TOP :: anc } code (retP X.tab rs post) { f := entry 0 args, h := hin }) : Ctr X.E f args hin post := by
  subst hnt; subst hanc; subst hrs
  exact Ctr.intro' [TOP] hf hb hname (Nat.le_of_ble_eq_true hargs) hres (wpc_ok h)
def plain (ids : List Nat) : AV → Bool
  | .junk => true
  | .d _ => true
  | .dagg _ => true
  | .ptr r _ => ids.contains r
  | .mp r => ids.contains r
  | .msl r _ _ _ => ids.contains r
  | _ => false
theorem plain_ment {ids : List Nat} {x : AV} (h : plain ids x = true) (r : Nat) (hr : x.ment r = true) : r ∈ ids := by
  cases x <;> simp_all [plain, AV.ment]
theorem plain_lk {ids : List Nat} : ∀ {f : List (Nat × AV)}, f.all (fun p => plain ids p.2) = true → ∀ t r, (lk t f).ment r = true → r ∈ ids
  | [], _, t, r, h => by simp [lk, AV.ment] at h
  | (k, v) :: l, ha, t, r, h => by
    simp only [List.all_cons, Bool.and_eq_true] at ha
    rw [show lk t ((k, v) :: l) = upd (fun t => lk t l) k v t from congrFun (lk_cons k v l) t] at h
    unfold upd at h
    split at h
    · exact plain_ment ha.1 r h
    · exact plain_lk ha.2 t r h
theorem CallP.makesL {E : Env} {f : FuncId} {args : List AV} {s : St} {K : AV → HL → Prop} {KP : List PanicEntry → HL → Prop} {res : AV} {ho : HL} (hu : ho.all (fun q => unmB k.anc q.1 s) = true) (h : Ctr E f args [] fun o => o = .ret res ho) (hk : K res (ho ++ s.h)) : CallP E k f args s K KP :=
  ⟨[], _, h, fun r o h => by simp [lkH] at h, fun res' ho' e => by
    injection e with e1 e2; subst e1; subst e2
    refine ⟨fun q o hq => .inr ?_, hk⟩
    obtain ⟨p, q1, q2⟩ := lkH_mem hq
    have := List.all_eq_true.1 hu p q1
    rwa [q2] at this, fun ch ho e => by simp at e⟩
end Go.Ax
