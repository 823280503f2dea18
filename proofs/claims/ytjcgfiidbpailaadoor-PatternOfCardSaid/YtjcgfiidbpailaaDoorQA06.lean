/- What the card of this claim stands on, or the card itself: for every input, as the given row says. -/
import Derived.Test.YtjcgfiidbpailaaDoorProg
import Derived.KernelRfl
import Derived.Laws.BitsLemmas
import Derived.Laws.Bits64
import Derived.LoopNIn
import Derived.Test.YtjcgfiidbpailaaDoorQA05

namespace Go.Ax
open Go.Proofs
def Tryd.tab : List (Nat × TI) := [
  (1, ⟨.func, 1, 8, [.nilFunc], []⟩),
  (2, ⟨(.int .i64), 1, 8, [.int .i64 0], [.int .i64]⟩),
  (3, ⟨(.int .i64), 1, 8, [.int .i64 0], [.int .i64]⟩),
  (4, ⟨.bool, 1, 1, [.bool false], [.bool]⟩),
  (5, ⟨(.int .u8), 1, 1, [.int .u8 0], [.int .u8]⟩),
  (6, ⟨(.int .u8), 1, 1, [.int .u8 0], [.int .u8]⟩),
  (7, ⟨(.struct [(0, 2), (1, 3), (2, 4), (3, 6)]), 4, 24, [.int .i64 0, .int .i64 0, .bool false, .int .u8 0], [.int .i64, .int .i64, .bool, .int .u8]⟩),
  (8, ⟨(.struct [(0, 2), (1, 3), (2, 4), (3, 6)]), 4, 24, [.int .i64 0, .int .i64 0, .bool false, .int .u8 0], [.int .i64, .int .i64, .bool, .int .u8]⟩),
  (9, ⟨.str, 1, 16, [.string ⟨#[]⟩], [.str]⟩),
  (10, ⟨.str, 1, 16, [.string ⟨#[]⟩], [.str]⟩),
  (11, ⟨.str, 1, 16, [.string ⟨#[]⟩], [.str]⟩),
  (12, ⟨(.int .u64), 1, 8, [.int .u64 0], [.int .u64]⟩),
  (13, ⟨(.struct [(0, 9), (1, 12)]), 2, 24, [.string ⟨#[]⟩, .int .u64 0], []⟩),
  (14, ⟨(.struct [(0, 9), (1, 12)]), 2, 24, [.string ⟨#[]⟩, .int .u64 0], []⟩),
  (15, ⟨(.ptr 244), 1, 8, [.pointer none], []⟩),
  (16, ⟨(.ptr 247), 1, 8, [.pointer none], []⟩),
  (17, ⟨(.ptr 254), 1, 8, [.pointer none], []⟩),
  (18, ⟨(.struct [(0, 17)]), 1, 8, [.pointer none], []⟩),
  (19, ⟨(.struct [(0, 17)]), 1, 8, [.pointer none], []⟩),
  (20, ⟨.iface, 1, 16, [.nilIface], []⟩),
  (21, ⟨(.int .i32), 1, 4, [.int .i32 0], [.int .i32]⟩),
  (22, ⟨(.int .u16), 1, 2, [.int .u16 0], [.int .u16]⟩),
  (23, ⟨(.array 8 22), 8, 16, [.int .u16 0, .int .u16 0, .int .u16 0, .int .u16 0, .int .u16 0, .int .u16 0, .int .u16 0, .int .u16 0], [.int .u16, .int .u16, .int .u16, .int .u16, .int .u16, .int .u16, .int .u16, .int .u16]⟩),
  (24, ⟨(.array 8 22), 8, 16, [.int .u16 0, .int .u16 0, .int .u16 0, .int .u16 0, .int .u16 0, .int .u16 0, .int .u16 0, .int .u16 0], [.int .u16, .int .u16, .int .u16, .int .u16, .int .u16, .int .u16, .int .u16, .int .u16]⟩),
  (25, ⟨(.array 2 22), 2, 4, [.int .u16 0, .int .u16 0], [.int .u16, .int .u16]⟩),
  (26, ⟨.func, 1, 8, [.nilFunc], []⟩),
  (27, ⟨.func, 1, 8, [.nilFunc], []⟩),
  (28, ⟨(.struct [(0, 3), (1, 22)]), 2, 16, [.int .i64 0, .int .u16 0], [.int .i64, .int .u16]⟩),
  (29, ⟨(.struct [(0, 3), (1, 22)]), 2, 16, [.int .i64 0, .int .u16 0], [.int .i64, .int .u16]⟩),
  (30, ⟨(.slice 29), 1, 24, [.slice none 0 0], []⟩),
  (31, ⟨(.slice 29), 1, 24, [.slice none 0 0], []⟩),
  (32, ⟨.func, 1, 8, [.nilFunc], []⟩),
  (33, ⟨.func, 1, 8, [.nilFunc], []⟩),
  (34, ⟨.func, 1, 8, [.nilFunc], []⟩),
  (35, ⟨(.slice 9), 1, 24, [.slice none 0 0], []⟩),
  (36, ⟨.func, 1, 8, [.nilFunc], []⟩),
  (38, ⟨.func, 1, 8, [.nilFunc], []⟩),
  (39, ⟨(.struct [(0, 22), (1, 22)]), 2, 4, [.int .u16 0, .int .u16 0], [.int .u16, .int .u16]⟩),
  (40, ⟨(.struct [(0, 22), (1, 22)]), 2, 4, [.int .u16 0, .int .u16 0], [.int .u16, .int .u16]⟩),
  (41, ⟨.func, 1, 8, [.nilFunc], []⟩),
  (42, ⟨.func, 1, 8, [.nilFunc], []⟩),
  (43, ⟨.func, 1, 8, [.nilFunc], []⟩),
  (44, ⟨.func, 1, 8, [.nilFunc], []⟩),
  (45, ⟨.func, 1, 8, [.nilFunc], []⟩),
  (46, ⟨(.slice 22), 1, 24, [.slice none 0 0], []⟩),
  (47, ⟨(.slice 49), 1, 24, [.slice none 0 0], []⟩),
  (48, ⟨(.struct [(0, 3), (1, 3), (2, 22), (3, 47)]), 4, 48, [.int .i64 0, .int .i64 0, .int .u16 0, .slice none 0 0], []⟩),
  (49, ⟨(.struct [(0, 3), (1, 3), (2, 22), (3, 47)]), 4, 48, [.int .i64 0, .int .i64 0, .int .u16 0, .slice none 0 0], []⟩),
  (50, ⟨(.slice 93), 1, 24, [.slice none 0 0], []⟩),
  (51, ⟨(.struct [(0, 46), (1, 49), (5, 50)]), 6, 96, [.slice none 0 0, .int .i64 0, .int .i64 0, .int .u16 0, .slice none 0 0, .slice none 0 0], []⟩),
  (52, ⟨(.struct [(0, 46), (1, 49), (5, 50)]), 6, 96, [.slice none 0 0, .int .i64 0, .int .i64 0, .int .u16 0, .slice none 0 0, .slice none 0 0], []⟩),
  (53, ⟨(.int .i64), 1, 8, [.int .i64 0], [.int .i64]⟩),
  (55, ⟨.func, 1, 8, [.nilFunc], []⟩),
  (56, ⟨.func, 1, 8, [.nilFunc], []⟩),
  (57, ⟨.func, 1, 8, [.nilFunc], []⟩),
  (58, ⟨(.slice 24), 1, 24, [.slice none 0 0], []⟩),
  (59, ⟨.func, 1, 8, [.nilFunc], []⟩),
  (61, ⟨.func, 1, 8, [.nilFunc], []⟩),
  (62, ⟨.func, 1, 8, [.nilFunc], []⟩),
  (64, ⟨.func, 1, 8, [.nilFunc], []⟩),
  (65, ⟨.func, 1, 8, [.nilFunc], []⟩),
  (66, ⟨.func, 1, 8, [.nilFunc], []⟩),
  (67, ⟨.func, 1, 8, [.nilFunc], []⟩),
  (68, ⟨.func, 1, 8, [.nilFunc], []⟩),
  (69, ⟨.func, 1, 8, [.nilFunc], []⟩),
  (70, ⟨(.slice 114), 1, 24, [.slice none 0 0], []⟩),
  (72, ⟨.func, 1, 8, [.nilFunc], []⟩),
  (73, ⟨(.ptr 76), 1, 8, [.pointer none], []⟩),
  (74, ⟨(.map 9 22), 1, 8, [.map none], []⟩),
  (75, ⟨(.struct [(0, 70), (1, 74), (2, 4), (3, 4)]), 4, 40, [.slice none 0 0, .map none, .bool false, .bool false], []⟩),
  (76, ⟨(.struct [(0, 70), (1, 74), (2, 4), (3, 4)]), 4, 40, [.slice none 0 0, .map none, .bool false, .bool false], []⟩),
  (78, ⟨.func, 1, 8, [.nilFunc], []⟩),
  (79, ⟨.func, 1, 8, [.nilFunc], []⟩),
  (80, ⟨(.ptr 83), 1, 8, [.pointer none], []⟩),
  (81, ⟨(.slice 5), 1, 24, [.slice none 0 0], []⟩),
  (82, ⟨(.struct [(0, 80), (1, 81)]), 2, 32, [.pointer none, .slice none 0 0], []⟩),
  (83, ⟨(.struct [(0, 80), (1, 81)]), 2, 32, [.pointer none, .slice none 0 0], []⟩),
  (84, ⟨(.struct [(0, 83)]), 2, 32, [.pointer none, .slice none 0 0], []⟩),
  (85, ⟨(.struct [(0, 83)]), 2, 32, [.pointer none, .slice none 0 0], []⟩),
  (86, ⟨.iface, 1, 16, [.nilIface], []⟩),
  (87, ⟨.iface, 1, 16, [.nilIface], []⟩),
  (89, ⟨.func, 1, 8, [.nilFunc], []⟩),
  (90, ⟨.func, 1, 8, [.nilFunc], []⟩),
  (91, ⟨.func, 1, 8, [.nilFunc], []⟩),
  (92, ⟨(.struct [(0, 30), (1, 30), (2, 30)]), 3, 72, [.slice none 0 0, .slice none 0 0, .slice none 0 0], []⟩),
  (93, ⟨(.struct [(0, 30), (1, 30), (2, 30)]), 3, 72, [.slice none 0 0, .slice none 0 0, .slice none 0 0], []⟩),
  (94, ⟨.func, 1, 8, [.nilFunc], []⟩),
  (95, ⟨.func, 1, 8, [.nilFunc], []⟩),
  (96, ⟨.func, 1, 8, [.nilFunc], []⟩),
  (97, ⟨(.slice 135), 1, 24, [.slice none 0 0], []⟩),
  (99, ⟨.func, 1, 8, [.nilFunc], []⟩),
  (100, ⟨.func, 1, 8, [.nilFunc], []⟩),
  (101, ⟨(.map 3 4), 1, 8, [.map none], []⟩),
  (102, ⟨.func, 1, 8, [.nilFunc], []⟩),
  (103, ⟨.func, 1, 8, [.nilFunc], []⟩),
  (104, ⟨.func, 1, 8, [.nilFunc], []⟩),
  (106, ⟨.func, 1, 8, [.nilFunc], []⟩),
  (108, ⟨.func, 1, 8, [.nilFunc], []⟩),
  (109, ⟨.func, 1, 8, [.nilFunc], []⟩),
  (110, ⟨.func, 1, 8, [.nilFunc], []⟩),
  (112, ⟨.func, 1, 8, [.nilFunc], []⟩),
  (113, ⟨(.struct [(0, 3), (1, 9), (2, 22)]), 3, 32, [.int .i64 0, .string ⟨#[]⟩, .int .u16 0], [.int .i64, .str, .int .u16]⟩),
  (114, ⟨(.struct [(0, 3), (1, 9), (2, 22)]), 3, 32, [.int .i64 0, .string ⟨#[]⟩, .int .u16 0], [.int .i64, .str, .int .u16]⟩),
  (115, ⟨.func, 1, 8, [.nilFunc], []⟩),
  (116, ⟨.func, 1, 8, [.nilFunc], []⟩),
  (117, ⟨.func, 1, 8, [.nilFunc], []⟩),
  (119, ⟨.func, 1, 8, [.nilFunc], []⟩),
  (120, ⟨(.struct []), 0, 0, [], []⟩),
  (121, ⟨(.struct []), 0, 0, [], []⟩),
  (123, ⟨.func, 1, 8, [.nilFunc], []⟩),
  (124, ⟨.func, 1, 8, [.nilFunc], []⟩),
  (125, ⟨.func, 1, 8, [.nilFunc], []⟩),
  (126, ⟨.func, 1, 8, [.nilFunc], []⟩),
  (127, ⟨(.ptr 85), 1, 8, [.pointer none], []⟩),
  (128, ⟨.func, 1, 8, [.nilFunc], []⟩),
  (129, ⟨.func, 1, 8, [.nilFunc], []⟩),
  (130, ⟨.func, 1, 8, [.nilFunc], []⟩),
  (131, ⟨(.ptr 5), 1, 8, [.pointer none], []⟩),
  (132, ⟨.func, 1, 8, [.nilFunc], []⟩),
  (133, ⟨.func, 1, 8, [.nilFunc], []⟩),
  (134, ⟨(.struct [(0, 4), (1, 4), (2, 3), (3, 3), (4, 30)]), 5, 48, [.bool false, .bool false, .int .i64 0, .int .i64 0, .slice none 0 0], []⟩),
  (135, ⟨(.struct [(0, 4), (1, 4), (2, 3), (3, 3), (4, 30)]), 5, 48, [.bool false, .bool false, .int .i64 0, .int .i64 0, .slice none 0 0], []⟩),
  (137, ⟨.func, 1, 8, [.nilFunc], []⟩),
  (138, ⟨.func, 1, 8, [.nilFunc], []⟩),
  (139, ⟨.func, 1, 8, [.nilFunc], []⟩),
  (140, ⟨.func, 1, 8, [.nilFunc], []⟩),
  (141, ⟨(.int .u64), 1, 8, [.int .u64 0], [.int .u64]⟩),
  (143, ⟨.func, 1, 8, [.nilFunc], []⟩),
  (144, ⟨.func, 1, 8, [.nilFunc], []⟩),
  (145, ⟨(.array 256 5), 256, 256, [.int .u8 0, .int .u8 0, .int .u8 0, .int .u8 0, .int .u8 0, .int .u8 0, .int .u8 0, .int .u8 0, .int .u8 0, .int .u8 0, .int .u8 0, .int .u8 0, .int .u8 0, .int .u8 0, .int .u8 0, .int .u8 0, .int .u8 0, .int .u8 0, .int .u8 0, .int .u8 0, .int .u8 0, .int .u8 0, .int .u8 0, .int .u8 0, .int .u8 0, .int .u8 0, .int .u8 0, .int .u8 0, .int .u8 0, .int .u8 0, .int .u8 0, .int .u8 0, .int .u8 0, .int .u8 0, .int .u8 0, .int .u8 0, .int .u8 0, .int .u8 0, .int .u8 0, .int .u8 0, .int .u8 0, .int .u8 0, .int .u8 0, .int .u8 0, .int .u8 0, .int .u8 0, .int .u8 0, .int .u8 0, .int .u8 0, .int .u8 0, .int .u8 0, .int .u8 0, .int .u8 0, .int .u8 0, .int .u8 0, .int .u8 0, .int .u8 0, .int .u8 0, .int .u8 0, .int .u8 0, .int .u8 0, .int .u8 0, .int .u8 0, .int .u8 0, .int .u8 0, .int .u8 0, .int .u8 0, .int .u8 0, .int .u8 0, .int .u8 0, .int .u8 0, .int .u8 0, .int .u8 0, .int .u8 0, .int .u8 0, .int .u8 0, .int .u8 0, .int .u8 0, .int .u8 0, .int .u8 0, .int .u8 0, .int .u8 0, .int .u8 0, .int .u8 0, .int .u8 0, .int .u8 0, .int .u8 0, .int .u8 0, .int .u8 0, .int .u8 0, .int .u8 0, .int .u8 0, .int .u8 0, .int .u8 0, .int .u8 0, .int .u8 0, .int .u8 0, .int .u8 0, .int .u8 0, .int .u8 0, .int .u8 0, .int .u8 0, .int .u8 0, .int .u8 0, .int .u8 0, .int .u8 0, .int .u8 0, .int .u8 0, .int .u8 0, .int .u8 0, .int .u8 0, .int .u8 0, .int .u8 0, .int .u8 0, .int .u8 0, .int .u8 0, .int .u8 0, .int .u8 0, .int .u8 0, .int .u8 0, .int .u8 0, .int .u8 0, .int .u8 0, .int .u8 0, .int .u8 0, .int .u8 0, .int .u8 0, .int .u8 0, .int .u8 0, .int .u8 0, .int .u8 0, .int .u8 0, .int .u8 0, .int .u8 0, .int .u8 0, .int .u8 0, .int .u8 0, .int .u8 0, .int .u8 0, .int .u8 0, .int .u8 0, .int .u8 0, .int .u8 0, .int .u8 0, .int .u8 0, .int .u8 0, .int .u8 0, .int .u8 0, .int .u8 0, .int .u8 0, .int .u8 0, .int .u8 0, .int .u8 0, .int .u8 0, .int .u8 0, .int .u8 0, .int .u8 0, .int .u8 0, .int .u8 0, .int .u8 0, .int .u8 0, .int .u8 0, .int .u8 0, .int .u8 0, .int .u8 0, .int .u8 0, .int .u8 0, .int .u8 0, .int .u8 0, .int .u8 0, .int .u8 0, .int .u8 0, .int .u8 0, .int .u8 0, .int .u8 0, .int .u8 0, .int .u8 0, .int .u8 0, .int .u8 0, .int .u8 0, .int .u8 0, .int .u8 0, .int .u8 0, .int .u8 0, .int .u8 0, .int .u8 0, .int .u8 0, .int .u8 0, .int .u8 0, .int .u8 0, .int .u8 0, .int .u8 0, .int .u8 0, .int .u8 0, .int .u8 0, .int .u8 0, .int .u8 0, .int .u8 0, .int .u8 0, .int .u8 0, .int .u8 0, .int .u8 0, .int .u8 0, .int .u8 0, .int .u8 0, .int .u8 0, .int .u8 0, .int .u8 0, .int .u8 0, .int .u8 0, .int .u8 0, .int .u8 0, .int .u8 0, .int .u8 0, .int .u8 0, .int .u8 0, .int .u8 0, .int .u8 0, .int .u8 0, .int .u8 0, .int .u8 0, .int .u8 0, .int .u8 0, .int .u8 0, .int .u8 0, .int .u8 0, .int .u8 0, .int .u8 0, .int .u8 0, .int .u8 0, .int .u8 0, .int .u8 0, .int .u8 0, .int .u8 0, .int .u8 0, .int .u8 0, .int .u8 0, .int .u8 0, .int .u8 0, .int .u8 0, .int .u8 0, .int .u8 0, .int .u8 0, .int .u8 0, .int .u8 0, .int .u8 0, .int .u8 0, .int .u8 0, .int .u8 0, .int .u8 0, .int .u8 0, .int .u8 0, .int .u8 0, .int .u8 0, .int .u8 0, .int .u8 0], [.int .u8, .int .u8, .int .u8, .int .u8, .int .u8, .int .u8, .int .u8, .int .u8, .int .u8, .int .u8, .int .u8, .int .u8, .int .u8, .int .u8, .int .u8, .int .u8, .int .u8, .int .u8, .int .u8, .int .u8, .int .u8, .int .u8, .int .u8, .int .u8, .int .u8, .int .u8, .int .u8, .int .u8, .int .u8, .int .u8, .int .u8, .int .u8, .int .u8, .int .u8, .int .u8, .int .u8, .int .u8, .int .u8, .int .u8, .int .u8, .int .u8, .int .u8, .int .u8, .int .u8, .int .u8, .int .u8, .int .u8, .int .u8, .int .u8, .int .u8, .int .u8, .int .u8, .int .u8, .int .u8, .int .u8, .int .u8, .int .u8, .int .u8, .int .u8, .int .u8, .int .u8, .int .u8, .int .u8, .int .u8, .int .u8, .int .u8, .int .u8, .int .u8, .int .u8, .int .u8, .int .u8, .int .u8, .int .u8, .int .u8, .int .u8, .int .u8, .int .u8, .int .u8, .int .u8, .int .u8, .int .u8, .int .u8, .int .u8, .int .u8, .int .u8, .int .u8, .int .u8, .int .u8, .int .u8, .int .u8, .int .u8, .int .u8, .int .u8, .int .u8, .int .u8, .int .u8, .int .u8, .int .u8, .int .u8, .int .u8, .int .u8, .int .u8, .int .u8, .int .u8, .int .u8, .int .u8, .int .u8, .int .u8, .int .u8, .int .u8, .int .u8, .int .u8, .int .u8, .int .u8, .int .u8, .int .u8, .int .u8, .int .u8, .int .u8, .int .u8, .int .u8, .int .u8, .int .u8, .int .u8, .int .u8, .int .u8, .int .u8, .int .u8, .int .u8, .int .u8, .int .u8, .int .u8, .int .u8, .int .u8, .int .u8, .int .u8, .int .u8, .int .u8, .int .u8, .int .u8, .int .u8, .int .u8, .int .u8, .int .u8, .int .u8, .int .u8, .int .u8, .int .u8, .int .u8, .int .u8, .int .u8, .int .u8, .int .u8, .int .u8, .int .u8, .int .u8, .int .u8, .int .u8, .int .u8, .int .u8, .int .u8, .int .u8, .int .u8, .int .u8, .int .u8, .int .u8, .int .u8, .int .u8, .int .u8, .int .u8, .int .u8, .int .u8, .int .u8, .int .u8, .int .u8, .int .u8, .int .u8, .int .u8, .int .u8, .int .u8, .int .u8, .int .u8, .int .u8, .int .u8, .int .u8, .int .u8, .int .u8, .int .u8, .int .u8, .int .u8, .int .u8, .int .u8, .int .u8, .int .u8, .int .u8, .int .u8, .int .u8, .int .u8, .int .u8, .int .u8, .int .u8, .int .u8, .int .u8, .int .u8, .int .u8, .int .u8, .int .u8, .int .u8, .int .u8, .int .u8, .int .u8, .int .u8, .int .u8, .int .u8, .int .u8, .int .u8, .int .u8, .int .u8, .int .u8, .int .u8, .int .u8, .int .u8, .int .u8, .int .u8, .int .u8, .int .u8, .int .u8, .int .u8, .int .u8, .int .u8, .int .u8, .int .u8, .int .u8, .int .u8, .int .u8, .int .u8, .int .u8, .int .u8, .int .u8, .int .u8, .int .u8, .int .u8, .int .u8, .int .u8, .int .u8, .int .u8, .int .u8, .int .u8, .int .u8, .int .u8, .int .u8, .int .u8, .int .u8, .int .u8, .int .u8, .int .u8]⟩),
  (146, ⟨(.struct [(0, 5), (1, 5)]), 2, 2, [.int .u8 0, .int .u8 0], [.int .u8, .int .u8]⟩),
  (147, ⟨(.struct [(0, 5), (1, 5)]), 2, 2, [.int .u8 0, .int .u8 0], [.int .u8, .int .u8]⟩),
  (148, ⟨(.array 16 147), 32, 32, [.int .u8 0, .int .u8 0, .int .u8 0, .int .u8 0, .int .u8 0, .int .u8 0, .int .u8 0, .int .u8 0, .int .u8 0, .int .u8 0, .int .u8 0, .int .u8 0, .int .u8 0, .int .u8 0, .int .u8 0, .int .u8 0, .int .u8 0, .int .u8 0, .int .u8 0, .int .u8 0, .int .u8 0, .int .u8 0, .int .u8 0, .int .u8 0, .int .u8 0, .int .u8 0, .int .u8 0, .int .u8 0, .int .u8 0, .int .u8 0, .int .u8 0, .int .u8 0], [.int .u8, .int .u8, .int .u8, .int .u8, .int .u8, .int .u8, .int .u8, .int .u8, .int .u8, .int .u8, .int .u8, .int .u8, .int .u8, .int .u8, .int .u8, .int .u8, .int .u8, .int .u8, .int .u8, .int .u8, .int .u8, .int .u8, .int .u8, .int .u8, .int .u8, .int .u8, .int .u8, .int .u8, .int .u8, .int .u8, .int .u8, .int .u8]⟩),
  (149, ⟨(.int .u64), 1, 8, [.int .u64 0], [.int .u64]⟩),
  (150, ⟨.func, 1, 8, [.nilFunc], []⟩),
  (151, ⟨.func, 1, 8, [.nilFunc], []⟩),
  (152, ⟨.func, 1, 8, [.nilFunc], []⟩),
  (153, ⟨.func, 1, 8, [.nilFunc], []⟩),
  (154, ⟨.func, 1, 8, [.nilFunc], []⟩),
  (155, ⟨.func, 1, 8, [.nilFunc], []⟩),
  (156, ⟨.func, 1, 8, [.nilFunc], []⟩),
  (157, ⟨.func, 1, 8, [.nilFunc], []⟩),
  (159, ⟨.func, 1, 8, [.nilFunc], []⟩),
  (160, ⟨.func, 1, 8, [.nilFunc], []⟩),
  (161, ⟨.func, 1, 8, [.nilFunc], []⟩),
  (162, ⟨.func, 1, 8, [.nilFunc], []⟩),
  (164, ⟨.func, 1, 8, [.nilFunc], []⟩),
  (166, ⟨.func, 1, 8, [.nilFunc], []⟩),
  (167, ⟨.func, 1, 8, [.nilFunc], []⟩),
  (168, ⟨.func, 1, 8, [.nilFunc], []⟩),
  (169, ⟨(.array 256 4), 256, 256, [.bool false, .bool false, .bool false, .bool false, .bool false, .bool false, .bool false, .bool false, .bool false, .bool false, .bool false, .bool false, .bool false, .bool false, .bool false, .bool false, .bool false, .bool false, .bool false, .bool false, .bool false, .bool false, .bool false, .bool false, .bool false, .bool false, .bool false, .bool false, .bool false, .bool false, .bool false, .bool false, .bool false, .bool false, .bool false, .bool false, .bool false, .bool false, .bool false, .bool false, .bool false, .bool false, .bool false, .bool false, .bool false, .bool false, .bool false, .bool false, .bool false, .bool false, .bool false, .bool false, .bool false, .bool false, .bool false, .bool false, .bool false, .bool false, .bool false, .bool false, .bool false, .bool false, .bool false, .bool false, .bool false, .bool false, .bool false, .bool false, .bool false, .bool false, .bool false, .bool false, .bool false, .bool false, .bool false, .bool false, .bool false, .bool false, .bool false, .bool false, .bool false, .bool false, .bool false, .bool false, .bool false, .bool false, .bool false, .bool false, .bool false, .bool false, .bool false, .bool false, .bool false, .bool false, .bool false, .bool false, .bool false, .bool false, .bool false, .bool false, .bool false, .bool false, .bool false, .bool false, .bool false, .bool false, .bool false, .bool false, .bool false, .bool false, .bool false, .bool false, .bool false, .bool false, .bool false, .bool false, .bool false, .bool false, .bool false, .bool false, .bool false, .bool false, .bool false, .bool false, .bool false, .bool false, .bool false, .bool false, .bool false, .bool false, .bool false, .bool false, .bool false, .bool false, .bool false, .bool false, .bool false, .bool false, .bool false, .bool false, .bool false, .bool false, .bool false, .bool false, .bool false, .bool false, .bool false, .bool false, .bool false, .bool false, .bool false, .bool false, .bool false, .bool false, .bool false, .bool false, .bool false, .bool false, .bool false, .bool false, .bool false, .bool false, .bool false, .bool false, .bool false, .bool false, .bool false, .bool false, .bool false, .bool false, .bool false, .bool false, .bool false, .bool false, .bool false, .bool false, .bool false, .bool false, .bool false, .bool false, .bool false, .bool false, .bool false, .bool false, .bool false, .bool false, .bool false, .bool false, .bool false, .bool false, .bool false, .bool false, .bool false, .bool false, .bool false, .bool false, .bool false, .bool false, .bool false, .bool false, .bool false, .bool false, .bool false, .bool false, .bool false, .bool false, .bool false, .bool false, .bool false, .bool false, .bool false, .bool false, .bool false, .bool false, .bool false, .bool false, .bool false, .bool false, .bool false, .bool false, .bool false, .bool false, .bool false, .bool false, .bool false, .bool false, .bool false, .bool false, .bool false, .bool false, .bool false, .bool false, .bool false, .bool false, .bool false, .bool false, .bool false, .bool false, .bool false, .bool false, .bool false, .bool false, .bool false, .bool false, .bool false, .bool false, .bool false, .bool false, .bool false, .bool false, .bool false, .bool false, .bool false, .bool false, .bool false, .bool false], [.bool, .bool, .bool, .bool, .bool, .bool, .bool, .bool, .bool, .bool, .bool, .bool, .bool, .bool, .bool, .bool, .bool, .bool, .bool, .bool, .bool, .bool, .bool, .bool, .bool, .bool, .bool, .bool, .bool, .bool, .bool, .bool, .bool, .bool, .bool, .bool, .bool, .bool, .bool, .bool, .bool, .bool, .bool, .bool, .bool, .bool, .bool, .bool, .bool, .bool, .bool, .bool, .bool, .bool, .bool, .bool, .bool, .bool, .bool, .bool, .bool, .bool, .bool, .bool, .bool, .bool, .bool, .bool, .bool, .bool, .bool, .bool, .bool, .bool, .bool, .bool, .bool, .bool, .bool, .bool, .bool, .bool, .bool, .bool, .bool, .bool, .bool, .bool, .bool, .bool, .bool, .bool, .bool, .bool, .bool, .bool, .bool, .bool, .bool, .bool, .bool, .bool, .bool, .bool, .bool, .bool, .bool, .bool, .bool, .bool, .bool, .bool, .bool, .bool, .bool, .bool, .bool, .bool, .bool, .bool, .bool, .bool, .bool, .bool, .bool, .bool, .bool, .bool, .bool, .bool, .bool, .bool, .bool, .bool, .bool, .bool, .bool, .bool, .bool, .bool, .bool, .bool, .bool, .bool, .bool, .bool, .bool, .bool, .bool, .bool, .bool, .bool, .bool, .bool, .bool, .bool, .bool, .bool, .bool, .bool, .bool, .bool, .bool, .bool, .bool, .bool, .bool, .bool, .bool, .bool, .bool, .bool, .bool, .bool, .bool, .bool, .bool, .bool, .bool, .bool, .bool, .bool, .bool, .bool, .bool, .bool, .bool, .bool, .bool, .bool, .bool, .bool, .bool, .bool, .bool, .bool, .bool, .bool, .bool, .bool, .bool, .bool, .bool, .bool, .bool, .bool, .bool, .bool, .bool, .bool, .bool, .bool, .bool, .bool, .bool, .bool, .bool, .bool, .bool, .bool, .bool, .bool, .bool, .bool, .bool, .bool, .bool, .bool, .bool, .bool, .bool, .bool, .bool, .bool, .bool, .bool, .bool, .bool, .bool, .bool, .bool, .bool, .bool, .bool, .bool, .bool, .bool, .bool, .bool, .bool, .bool, .bool, .bool, .bool, .bool, .bool]⟩),
  (170, ⟨(.array 256 4), 256, 256, [.bool false, .bool false, .bool false, .bool false, .bool false, .bool false, .bool false, .bool false, .bool false, .bool false, .bool false, .bool false, .bool false, .bool false, .bool false, .bool false, .bool false, .bool false, .bool false, .bool false, .bool false, .bool false, .bool false, .bool false, .bool false, .bool false, .bool false, .bool false, .bool false, .bool false, .bool false, .bool false, .bool false, .bool false, .bool false, .bool false, .bool false, .bool false, .bool false, .bool false, .bool false, .bool false, .bool false, .bool false, .bool false, .bool false, .bool false, .bool false, .bool false, .bool false, .bool false, .bool false, .bool false, .bool false, .bool false, .bool false, .bool false, .bool false, .bool false, .bool false, .bool false, .bool false, .bool false, .bool false, .bool false, .bool false, .bool false, .bool false, .bool false, .bool false, .bool false, .bool false, .bool false, .bool false, .bool false, .bool false, .bool false, .bool false, .bool false, .bool false, .bool false, .bool false, .bool false, .bool false, .bool false, .bool false, .bool false, .bool false, .bool false, .bool false, .bool false, .bool false, .bool false, .bool false, .bool false, .bool false, .bool false, .bool false, .bool false, .bool false, .bool false, .bool false, .bool false, .bool false, .bool false, .bool false, .bool false, .bool false, .bool false, .bool false, .bool false, .bool false, .bool false, .bool false, .bool false, .bool false, .bool false, .bool false, .bool false, .bool false, .bool false, .bool false, .bool false, .bool false, .bool false, .bool false, .bool false, .bool false, .bool false, .bool false, .bool false, .bool false, .bool false, .bool false, .bool false, .bool false, .bool false, .bool false, .bool false, .bool false, .bool false, .bool false, .bool false, .bool false, .bool false, .bool false, .bool false, .bool false, .bool false, .bool false, .bool false, .bool false, .bool false, .bool false, .bool false, .bool false, .bool false, .bool false, .bool false, .bool false, .bool false, .bool false, .bool false, .bool false, .bool false, .bool false, .bool false, .bool false, .bool false, .bool false, .bool false, .bool false, .bool false, .bool false, .bool false, .bool false, .bool false, .bool false, .bool false, .bool false, .bool false, .bool false, .bool false, .bool false, .bool false, .bool false, .bool false, .bool false, .bool false, .bool false, .bool false, .bool false, .bool false, .bool false, .bool false, .bool false, .bool false, .bool false, .bool false, .bool false, .bool false, .bool false, .bool false, .bool false, .bool false, .bool false, .bool false, .bool false, .bool false, .bool false, .bool false, .bool false, .bool false, .bool false, .bool false, .bool false, .bool false, .bool false, .bool false, .bool false, .bool false, .bool false, .bool false, .bool false, .bool false, .bool false, .bool false, .bool false, .bool false, .bool false, .bool false, .bool false, .bool false, .bool false, .bool false, .bool false, .bool false, .bool false, .bool false, .bool false, .bool false, .bool false, .bool false, .bool false, .bool false, .bool false, .bool false, .bool false, .bool false, .bool false, .bool false, .bool false, .bool false, .bool false, .bool false, .bool false], [.bool, .bool, .bool, .bool, .bool, .bool, .bool, .bool, .bool, .bool, .bool, .bool, .bool, .bool, .bool, .bool, .bool, .bool, .bool, .bool, .bool, .bool, .bool, .bool, .bool, .bool, .bool, .bool, .bool, .bool, .bool, .bool, .bool, .bool, .bool, .bool, .bool, .bool, .bool, .bool, .bool, .bool, .bool, .bool, .bool, .bool, .bool, .bool, .bool, .bool, .bool, .bool, .bool, .bool, .bool, .bool, .bool, .bool, .bool, .bool, .bool, .bool, .bool, .bool, .bool, .bool, .bool, .bool, .bool, .bool, .bool, .bool, .bool, .bool, .bool, .bool, .bool, .bool, .bool, .bool, .bool, .bool, .bool, .bool, .bool, .bool, .bool, .bool, .bool, .bool, .bool, .bool, .bool, .bool, .bool, .bool, .bool, .bool, .bool, .bool, .bool, .bool, .bool, .bool, .bool, .bool, .bool, .bool, .bool, .bool, .bool, .bool, .bool, .bool, .bool, .bool, .bool, .bool, .bool, .bool, .bool, .bool, .bool, .bool, .bool, .bool, .bool, .bool, .bool, .bool, .bool, .bool, .bool, .bool, .bool, .bool, .bool, .bool, .bool, .bool, .bool, .bool, .bool, .bool, .bool, .bool, .bool, .bool, .bool, .bool, .bool, .bool, .bool, .bool, .bool, .bool, .bool, .bool, .bool, .bool, .bool, .bool, .bool, .bool, .bool, .bool, .bool, .bool, .bool, .bool, .bool, .bool, .bool, .bool, .bool, .bool, .bool, .bool, .bool, .bool, .bool, .bool, .bool, .bool, .bool, .bool, .bool, .bool, .bool, .bool, .bool, .bool, .bool, .bool, .bool, .bool, .bool, .bool, .bool, .bool, .bool, .bool, .bool, .bool, .bool, .bool, .bool, .bool, .bool, .bool, .bool, .bool, .bool, .bool, .bool, .bool, .bool, .bool, .bool, .bool, .bool, .bool, .bool, .bool, .bool, .bool, .bool, .bool, .bool, .bool, .bool, .bool, .bool, .bool, .bool, .bool, .bool, .bool, .bool, .bool, .bool, .bool, .bool, .bool, .bool, .bool, .bool, .bool, .bool, .bool, .bool, .bool, .bool, .bool, .bool, .bool]⟩),
  (172, ⟨.func, 1, 8, [.nilFunc], []⟩),
  (173, ⟨.func, 1, 8, [.nilFunc], []⟩),
  (174, ⟨(.ptr 170), 1, 8, [.pointer none], []⟩),
  (175, ⟨.func, 1, 8, [.nilFunc], []⟩),
  (176, ⟨(.int .u32), 1, 4, [.int .u32 0], [.int .u32]⟩),
  (177, ⟨.func, 1, 8, [.nilFunc], []⟩),
  (178, ⟨(.ptr 208), 1, 8, [.pointer none], []⟩),
  (179, ⟨.func, 1, 8, [.nilFunc], []⟩),
  (180, ⟨.func, 1, 8, [.nilFunc], []⟩),
  (181, ⟨.func, 1, 8, [.nilFunc], []⟩),
  (182, ⟨.func, 1, 8, [.nilFunc], []⟩),
  (183, ⟨.func, 1, 8, [.nilFunc], []⟩),
  (184, ⟨.func, 1, 8, [.nilFunc], []⟩),
  (185, ⟨.func, 1, 8, [.nilFunc], []⟩),
  (186, ⟨.func, 1, 8, [.nilFunc], []⟩),
  (187, ⟨.func, 1, 8, [.nilFunc], []⟩),
  (188, ⟨(.array 24 5), 24, 24, [.int .u8 0, .int .u8 0, .int .u8 0, .int .u8 0, .int .u8 0, .int .u8 0, .int .u8 0, .int .u8 0, .int .u8 0, .int .u8 0, .int .u8 0, .int .u8 0, .int .u8 0, .int .u8 0, .int .u8 0, .int .u8 0, .int .u8 0, .int .u8 0, .int .u8 0, .int .u8 0, .int .u8 0, .int .u8 0, .int .u8 0, .int .u8 0], [.int .u8, .int .u8, .int .u8, .int .u8, .int .u8, .int .u8, .int .u8, .int .u8, .int .u8, .int .u8, .int .u8, .int .u8, .int .u8, .int .u8, .int .u8, .int .u8, .int .u8, .int .u8, .int .u8, .int .u8, .int .u8, .int .u8, .int .u8, .int .u8]⟩),
  (189, ⟨.func, 1, 8, [.nilFunc], []⟩),
  (190, ⟨.func, 1, 8, [.nilFunc], []⟩),
  (192, ⟨.func, 1, 8, [.nilFunc], []⟩),
  (193, ⟨.func, 1, 8, [.nilFunc], []⟩),
  (194, ⟨.func, 1, 8, [.nilFunc], []⟩),
  (195, ⟨.func, 1, 8, [.nilFunc], []⟩),
  (196, ⟨.func, 1, 8, [.nilFunc], []⟩),
  (197, ⟨.func, 1, 8, [.nilFunc], []⟩),
  (198, ⟨.func, 1, 8, [.nilFunc], []⟩),
  (199, ⟨.func, 1, 8, [.nilFunc], []⟩),
  (200, ⟨(.int .i64), 1, 8, [.int .i64 0], [.int .i64]⟩),
  (201, ⟨.func, 1, 8, [.nilFunc], []⟩),
  (202, ⟨(.ptr 228), 1, 8, [.pointer none], []⟩),
  (203, ⟨.func, 1, 8, [.nilFunc], []⟩),
  (204, ⟨.func, 1, 8, [.nilFunc], []⟩),
  (205, ⟨(.slice 210), 1, 24, [.slice none 0 0], []⟩),
  (206, ⟨(.slice 213), 1, 24, [.slice none 0 0], []⟩),
  (207, ⟨(.struct [(0, 205), (1, 206), (2, 3)]), 3, 56, [.slice none 0 0, .slice none 0 0, .int .i64 0], []⟩),
  (208, ⟨(.struct [(0, 205), (1, 206), (2, 3)]), 3, 56, [.slice none 0 0, .slice none 0 0, .int .i64 0], []⟩),
  (209, ⟨(.struct [(0, 22), (1, 22), (2, 22)]), 3, 6, [.int .u16 0, .int .u16 0, .int .u16 0], [.int .u16, .int .u16, .int .u16]⟩),
  (210, ⟨(.struct [(0, 22), (1, 22), (2, 22)]), 3, 6, [.int .u16 0, .int .u16 0, .int .u16 0], [.int .u16, .int .u16, .int .u16]⟩),
  (211, ⟨.func, 1, 8, [.nilFunc], []⟩),
  (212, ⟨(.struct [(0, 176), (1, 176), (2, 176)]), 3, 12, [.int .u32 0, .int .u32 0, .int .u32 0], [.int .u32, .int .u32, .int .u32]⟩),
  (213, ⟨(.struct [(0, 176), (1, 176), (2, 176)]), 3, 12, [.int .u32 0, .int .u32 0, .int .u32 0], [.int .u32, .int .u32, .int .u32]⟩),
  (214, ⟨.func, 1, 8, [.nilFunc], []⟩),
  (215, ⟨.func, 1, 8, [.nilFunc], []⟩),
  (216, ⟨.func, 1, 8, [.nilFunc], []⟩),
  (217, ⟨.func, 1, 8, [.nilFunc], []⟩),
  (218, ⟨.func, 1, 8, [.nilFunc], []⟩),
  (219, ⟨(.array 20 141), 20, 160, [.int .u64 0, .int .u64 0, .int .u64 0, .int .u64 0, .int .u64 0, .int .u64 0, .int .u64 0, .int .u64 0, .int .u64 0, .int .u64 0, .int .u64 0, .int .u64 0, .int .u64 0, .int .u64 0, .int .u64 0, .int .u64 0, .int .u64 0, .int .u64 0, .int .u64 0, .int .u64 0], [.int .u64, .int .u64, .int .u64, .int .u64, .int .u64, .int .u64, .int .u64, .int .u64, .int .u64, .int .u64, .int .u64, .int .u64, .int .u64, .int .u64, .int .u64, .int .u64, .int .u64, .int .u64, .int .u64, .int .u64]⟩),
  (220, ⟨(.array 65 5), 65, 65, [.int .u8 0, .int .u8 0, .int .u8 0, .int .u8 0, .int .u8 0, .int .u8 0, .int .u8 0, .int .u8 0, .int .u8 0, .int .u8 0, .int .u8 0, .int .u8 0, .int .u8 0, .int .u8 0, .int .u8 0, .int .u8 0, .int .u8 0, .int .u8 0, .int .u8 0, .int .u8 0, .int .u8 0, .int .u8 0, .int .u8 0, .int .u8 0, .int .u8 0, .int .u8 0, .int .u8 0, .int .u8 0, .int .u8 0, .int .u8 0, .int .u8 0, .int .u8 0, .int .u8 0, .int .u8 0, .int .u8 0, .int .u8 0, .int .u8 0, .int .u8 0, .int .u8 0, .int .u8 0, .int .u8 0, .int .u8 0, .int .u8 0, .int .u8 0, .int .u8 0, .int .u8 0, .int .u8 0, .int .u8 0, .int .u8 0, .int .u8 0, .int .u8 0, .int .u8 0, .int .u8 0, .int .u8 0, .int .u8 0, .int .u8 0, .int .u8 0, .int .u8 0, .int .u8 0, .int .u8 0, .int .u8 0, .int .u8 0, .int .u8 0, .int .u8 0, .int .u8 0], [.int .u8, .int .u8, .int .u8, .int .u8, .int .u8, .int .u8, .int .u8, .int .u8, .int .u8, .int .u8, .int .u8, .int .u8, .int .u8, .int .u8, .int .u8, .int .u8, .int .u8, .int .u8, .int .u8, .int .u8, .int .u8, .int .u8, .int .u8, .int .u8, .int .u8, .int .u8, .int .u8, .int .u8, .int .u8, .int .u8, .int .u8, .int .u8, .int .u8, .int .u8, .int .u8, .int .u8, .int .u8, .int .u8, .int .u8, .int .u8, .int .u8, .int .u8, .int .u8, .int .u8, .int .u8, .int .u8, .int .u8, .int .u8, .int .u8, .int .u8, .int .u8, .int .u8, .int .u8, .int .u8, .int .u8, .int .u8, .int .u8, .int .u8, .int .u8, .int .u8, .int .u8, .int .u8, .int .u8, .int .u8, .int .u8]⟩),
  (221, ⟨.func, 1, 8, [.nilFunc], []⟩),
  (222, ⟨.func, 1, 8, [.nilFunc], []⟩),
  (224, ⟨.func, 1, 8, [.nilFunc], []⟩),
  (225, ⟨.func, 1, 8, [.nilFunc], []⟩),
  (226, ⟨.func, 1, 8, [.nilFunc], []⟩),
  (227, ⟨(.struct [(0, 9), (1, 9), (2, 87)]), 3, 48, [.string ⟨#[]⟩, .string ⟨#[]⟩, .nilIface], []⟩),
  (228, ⟨(.struct [(0, 9), (1, 9), (2, 87)]), 3, 48, [.string ⟨#[]⟩, .string ⟨#[]⟩, .nilIface], []⟩),
  (229, ⟨.func, 1, 8, [.nilFunc], []⟩),
  (230, ⟨(.ptr 210), 1, 8, [.pointer none], []⟩),
  (231, ⟨(.ptr 213), 1, 8, [.pointer none], []⟩),
  (232, ⟨.func, 1, 8, [.nilFunc], []⟩),
  (233, ⟨.func, 1, 8, [.nilFunc], []⟩),
  (234, ⟨(.ptr 236), 1, 8, [.pointer none], []⟩),
  (235, ⟨(.struct [(0, 9)]), 1, 16, [.string ⟨#[]⟩], [.str]⟩),
  (236, ⟨(.struct [(0, 9)]), 1, 16, [.string ⟨#[]⟩], [.str]⟩),
  (237, ⟨.func, 1, 8, [.nilFunc], []⟩),
  (238, ⟨.func, 1, 8, [.nilFunc], []⟩),
  (239, ⟨(.array 32 5), 32, 32, [.int .u8 0, .int .u8 0, .int .u8 0, .int .u8 0, .int .u8 0, .int .u8 0, .int .u8 0, .int .u8 0, .int .u8 0, .int .u8 0, .int .u8 0, .int .u8 0, .int .u8 0, .int .u8 0, .int .u8 0, .int .u8 0, .int .u8 0, .int .u8 0, .int .u8 0, .int .u8 0, .int .u8 0, .int .u8 0, .int .u8 0, .int .u8 0, .int .u8 0, .int .u8 0, .int .u8 0, .int .u8 0, .int .u8 0, .int .u8 0, .int .u8 0, .int .u8 0], [.int .u8, .int .u8, .int .u8, .int .u8, .int .u8, .int .u8, .int .u8, .int .u8, .int .u8, .int .u8, .int .u8, .int .u8, .int .u8, .int .u8, .int .u8, .int .u8, .int .u8, .int .u8, .int .u8, .int .u8, .int .u8, .int .u8, .int .u8, .int .u8, .int .u8, .int .u8, .int .u8, .int .u8, .int .u8, .int .u8, .int .u8, .int .u8]⟩),
  (240, ⟨(.array 64 5), 64, 64, [.int .u8 0, .int .u8 0, .int .u8 0, .int .u8 0, .int .u8 0, .int .u8 0, .int .u8 0, .int .u8 0, .int .u8 0, .int .u8 0, .int .u8 0, .int .u8 0, .int .u8 0, .int .u8 0, .int .u8 0, .int .u8 0, .int .u8 0, .int .u8 0, .int .u8 0, .int .u8 0, .int .u8 0, .int .u8 0, .int .u8 0, .int .u8 0, .int .u8 0, .int .u8 0, .int .u8 0, .int .u8 0, .int .u8 0, .int .u8 0, .int .u8 0, .int .u8 0, .int .u8 0, .int .u8 0, .int .u8 0, .int .u8 0, .int .u8 0, .int .u8 0, .int .u8 0, .int .u8 0, .int .u8 0, .int .u8 0, .int .u8 0, .int .u8 0, .int .u8 0, .int .u8 0, .int .u8 0, .int .u8 0, .int .u8 0, .int .u8 0, .int .u8 0, .int .u8 0, .int .u8 0, .int .u8 0, .int .u8 0, .int .u8 0, .int .u8 0, .int .u8 0, .int .u8 0, .int .u8 0, .int .u8 0, .int .u8 0, .int .u8 0, .int .u8 0], [.int .u8, .int .u8, .int .u8, .int .u8, .int .u8, .int .u8, .int .u8, .int .u8, .int .u8, .int .u8, .int .u8, .int .u8, .int .u8, .int .u8, .int .u8, .int .u8, .int .u8, .int .u8, .int .u8, .int .u8, .int .u8, .int .u8, .int .u8, .int .u8, .int .u8, .int .u8, .int .u8, .int .u8, .int .u8, .int .u8, .int .u8, .int .u8, .int .u8, .int .u8, .int .u8, .int .u8, .int .u8, .int .u8, .int .u8, .int .u8, .int .u8, .int .u8, .int .u8, .int .u8, .int .u8, .int .u8, .int .u8, .int .u8, .int .u8, .int .u8, .int .u8, .int .u8, .int .u8, .int .u8, .int .u8, .int .u8, .int .u8, .int .u8, .int .u8, .int .u8, .int .u8, .int .u8, .int .u8, .int .u8]⟩),
  (242, ⟨.func, 1, 8, [.nilFunc], []⟩),
  (243, ⟨(.struct [(0, 17), (1, 17), (2, 17), (3, 9)]), 4, 40, [.pointer none, .pointer none, .pointer none, .string ⟨#[]⟩], []⟩),
  (244, ⟨(.struct [(0, 17), (1, 17), (2, 17), (3, 9)]), 4, 40, [.pointer none, .pointer none, .pointer none, .string ⟨#[]⟩], []⟩),
  (248, ⟨(.int .u8), 1, 1, [.int .u8 0], [.int .u8]⟩),
  (249, ⟨(.int .u8), 1, 1, [.int .u8 0], [.int .u8]⟩),
  (250, ⟨.func, 1, 8, [.nilFunc], []⟩),
  (251, ⟨(.int .i32), 1, 4, [.int .i32 0], [.int .i32]⟩),
  (252, ⟨(.int .i32), 1, 4, [.int .i32 0], [.int .i32]⟩),
  (253, ⟨(.struct [(0, 12), (1, 12), (2, 176), (3, 248), (4, 5), (5, 5), (6, 249), (7, 250), (8, 131), (9, 251), (10, 252)]), 11, 48, [.int .u64 0, .int .u64 0, .int .u32 0, .int .u8 0, .int .u8 0, .int .u8 0, .int .u8 0, .nilFunc, .pointer none, .int .i32 0, .int .i32 0], []⟩),
  (254, ⟨(.struct [(0, 12), (1, 12), (2, 176), (3, 248), (4, 5), (5, 5), (6, 249), (7, 250), (8, 131), (9, 251), (10, 252)]), 11, 48, [.int .u64 0, .int .u64 0, .int .u32 0, .int .u8 0, .int .u8 0, .int .u8 0, .int .u8 0, .nilFunc, .pointer none, .int .i32 0, .int .i32 0], []⟩)]
theorem Tryd.tabOk : TabOk Tryd.prog Tryd.tab := by unfold TabOk; kernel_rfl
def Tryd.deB : List Int := [0, 1, 56, 2, 57, 49, 28, 3, 61, 58, 42, 50, 38, 29, 17, 4, 62, 47, 59, 36, 45, 43, 51, 22, 53, 39, 33, 30, 24, 18, 12, 5, 63, 55, 48, 27, 60, 41, 37, 16, 46, 35, 44, 21, 52, 32, 23, 11, 54, 26, 40, 15, 34, 20, 31, 10, 25, 14, 19, 9, 13, 8, 7, 6]
def Tryd.gl : List (Nat × List D) := [(9, Tryd.deB.map fun n => .v (.int .u8 n))]
structure GP where
  ng : Nat
  G : World → Prop
  gl : List (Nat × List D)
  glOk : ∀ w, G w → GlOk ng gl w
  Gst : ∀ w w' : World, w'.os = w.os → (∀ b, b < ng → w'.heap[b]? = w.heap[b]?) → G w → G w'
theorem Tryd.mixed : Tryd.prog.follows .mixedOrders = true := by kernel_rfl
noncomputable def ax (g : GP) : Ax := { E := { P := Tryd.prog, ng := g.ng, G := g.G, gl := g.gl, glOk := g.glOk, Gst := g.Gst, mixed := Tryd.mixed }, tab := Tryd.tab, ok := Tryd.tabOk }
end Go.Ax

namespace Go.Ax
def B6_23 : List Nat := [0, 0, 2, 6, 15, 31, 63, 127, 15, 511, 1023]
def B23_6 : List Nat := [0, 0, 2, 6, 14, 30, 0, 64, 192, 478, 1022, 2046, 4095, 8191]
def B28_1 : List Nat := [0, 1, 3, 7, 15, 31, 63, 127, 255, 31, 543, 2047, 4095, 8191]
def B43_8 : List Nat := [0, 0, 2, 7, 15, 31, 31, 127, 255, 31, 31, 1567, 3615, 8191, 16383, 32767]
def B71_3 : List Nat := [0, 1, 3, 3, 11, 31, 63, 0, 128, 511, 1023]
def B73_3 : List Nat := [0, 0, 3, 0, 0, 0, 32, 112, 248, 7, 1023, 2047]
end Go.Ax

namespace Go.Ax
theorem CallP.det {E : Env} {k : Kn} {f : FuncId} {args : List AV} {s : St} {K : AV → HL → Prop} {KP : List PanicEntry → HL → Prop} {res : AV} (h : Ctr E f args [] fun o => o = .ret res []) (hk : K res s.h) : CallP E k f args s K KP :=
  ⟨[], _, h, fun r o h => by simp [lkH] at h, fun res' ho e => by injection e with e1 e2; subst e1; subst e2; exact ⟨fun r o h => by simp [lkH] at h, hk⟩, fun ch ho e => by simp at e⟩
theorem CallD.det {E : Env} {f : FuncId} {args : List AV} {s : St} {K : AV → HL → HL → Prop} {PD : List PanicEntry → Prop} {res : AV} (h : Ctr E f args [] fun o => o = .ret res []) (hk : K res [] []) : CallD E f args s K PD :=
  ⟨[], res, [], h.mono fun _ h => .inl h, fun r o h => by simp [lkH] at h, hk⟩
theorem CallP.arg {E : Env} {k : Kn} {f : FuncId} {args args' : List AV} {s : St} {K : AV → HL → Prop} {KP : List PanicEntry → HL → Prop} (e : args = args') (h : CallP E k f args' s K KP) : CallP E k f args s K KP := e ▸ h
abbrev AV.i64 (n : Int) : AV := .d (.v (.int .i64 n))
abbrev AV.bool (b : Bool) : AV := .d (.v (.bool b))
abbrev AV.str (b : ByteArray) : AV := .d (.v (.string b))
abbrev D.i64 (n : Int) : D := .v (.int .i64 n)
abbrev D.u16 (n : Int) : D := .v (.int .u16 n)
theorem msl_eq {r n n' : Nat} (h : n = n') : AV.msl r n 0 n = AV.msl r n' 0 n' := by rw [h]
theorem AV.int_eq {k : IntKind} {a b : Int} (h : a = b) : (AV.d (.v (.int k a))) = .d (.v (.int k b)) := by rw [h]
theorem i64_wrap {n : Int} (h0 : -9223372036854775808 ≤ n) (h1 : n < 9223372036854775808) : IntKind.i64.wrap n = n := by rw [IntKind.wrap_i64]; omega
theorem i64_succ {n : Nat} (h1 : n < 9223372036854775807) : IntKind.i64.wrap ((n : Int) + 1) = ((n + 1 : Nat) : Int) := by rw [IntKind.wrap_i64]; omega
end Go.Ax

namespace Go.Ax
variable {X : Ax} {k : Kn}
theorem LoopP.inv {σ : Type} {body : Code} {Q : APost} {s : St} (st : σ → St) (I : σ → Prop) (μ : σ → Nat) (s0 : σ) (hI : I s0) (h0 : (st s0).Le s)
    (round : ∀ x, I x → wpc X.E X.tab k body (thenP (fun s' => ∃ x', I x' ∧ μ x' < μ x ∧ (st x').Le s') Q) (st x)) : LoopP X.E k body Q s :=
  ⟨AWp.loop (σ := { x : σ // I x }) (fun x => st x.1) (fun x => μ x.1) ⟨s0, hI⟩ h0 fun ⟨x, hx⟩ => AWp.mono (wpc_ok (round x hx)) fun e s' h => by
    cases e with
    | normal => obtain ⟨x', h1, h2, h3⟩ := h; exact ⟨⟨x', h1⟩, h2, h3⟩
    | _ => exact h⟩
theorem Sim.seen {c : Cx} {Im : Nat → Prop} {ρ : Nat → Option Loc} {F : Nat → AV} {H : Nat → Option AObj} {a : Act} {w : World} (S : Sim c Im ρ F H a w) {t : Nat} {x : AV} (hx : RA (hp w) Im ρ (a.tmps.getD t undef) x) : Sim c Im ρ (upd F t x) H a w where
  defs := S.defs
  nt := S.nt
  fr := fun u hu => by
    by_cases h : u = t
    · subst h; simpa using hx
    · rw [upd_ne _ _ h]; exact S.fr u hu
  obj := S.obj
  dis := S.dis
  imn := S.imn
  im0 := S.im0
  os := S.os
  tape := S.tape
  output := S.output
  size := S.size
  kept := S.kept
  anc := S.anc
theorem AWp.own {E : Env} {code : Code} {Q : APost} {s : St} (t r sz : Nat) (el : TypeId) (ht : Nat.blt t k.nt = true) (hl : lk t s.f = .d (.v (.slice none 0 0))) (hu : unmB k.anc r s = true)
    (h : AWp E k code Q { f := (t, .msl r 0 0 0) :: s.f, h := (r, some (.buf sz el [])) :: s.h }) : AWp E k code Q s := fun c ok hn ha Im ρ a w S => by
  have hv : a.tmps.getD t undef = .slice none 0 0 := by
    have := S.fr t (by rw [hn]; simpa using ht)
    simp only [St.F] at this
    rw [hl] at this
    exact this.v
  have S1 := S.new (w' := w) (r := r) (l := { blk := none, isBuf := true, sz := sz }) (o := .buf sz el []) (Grows.refl w _) (unmB_spec (by rw [ha]; exact hu)) (by simp [Loc.fp]) ⟨rfl, rfl, rfl, rfl, by simp, .inl ⟨rfl, rfl, rfl⟩⟩
  have S2 := S1.seen (t := t) (x := .msl r 0 0 0) (by
    rw [hv]
    refine .msl _ r 0 0 0 rfl fun l hl => ?_
    rw [upd_same] at hl; injection hl with hl; subst hl
    exact ⟨by simp, fun _ => rfl⟩)
  refine h c ok hn ha Im (upd ρ r (some { blk := none, isBuf := true, sz := sz })) a w ?_
  have e1 : (St.F { f := (t, .msl r 0 0 0) :: s.f, h := (r, some (.buf sz el [])) :: s.h }) = upd s.F t (.msl r 0 0 0) := lk_cons t _ s.f
  have e2 : (St.H { f := (t, .msl r 0 0 0) :: s.f, h := (r, some (.buf sz el [])) :: s.h }) = upd s.H r (some (.buf sz el [])) := lkH_cons r _ s.h
  rw [e1, e2]
  exact S2
theorem LoopP.own {E : Env} {code : Code} {Q : APost} {s : St} (t r sz : Nat) (el : TypeId) (ht : Nat.blt t k.nt = true) (hl : lk t s.f = .d (.v (.slice none 0 0))) (hu : unmB k.anc r s = true)
    (h : LoopP E k code Q { f := (t, .msl r 0 0 0) :: s.f, h := (r, some (.buf sz el [])) :: s.h }) : LoopP E k code Q s := ⟨.own t r sz el ht hl hu h.ok⟩
def frz (r sz : Nat) (els : List (List D)) : AV → AV
  | .msl q n off len => match Nat.beq q r, Nat.beq n els.length, Nat.ble (off + len) els.length with
    | true, true, true => .d (.sl false sz ((els.drop off).take len))
    | _, _, _ => .msl q n off len
  | x => x
theorem Ctr.freeze {E : Env} {f : FuncId} {args : List AV} {res : AV} (r sz : Nat) (el : TypeId) (els : List (List D)) (h : Ctr E f (args.map (frz r sz els)) [] fun o => o = .ret res []) : Ctr E f args [(r, some (.buf sz el els))] fun o => o = .ret res [] := by
  refine ⟨h.1, fun w Im ρ vs hG hIm hgl hsz hra hrel => ?_⟩
  obtain ⟨l, hl, hro, hown⟩ := hrel.obj r (.buf sz el els) (by simp [lkH])
  have hra1 : ∀ (i : Nat) (v : Value) (x : AV), vs[i]? = some v → (args.map (frz r sz els))[i]? = some x → RA (hp w) (fun b => Im b ∨ b ∈ l.fp) ρ v x := fun i v x h1 h2 => by
    simp only [List.getElem?_map, Option.map_eq_some_iff] at h2
    obtain ⟨y, hy, rfl⟩ := h2
    have h3 := hra i v y h1 hy
    have h4 : RA (hp w) (fun b => Im b ∨ b ∈ l.fp) ρ v y := h3.mono (fun _ h => .inl h) (fun _ _ => rfl) fun q _ l' hl' => ⟨l', hl', .inl rfl⟩
    unfold frz
    split
    · split
      · rename_i q n off len e1 e2 e3
        have := Nat.eq_of_beq_eq_true e1; subst this
        have := Nat.eq_of_beq_eq_true e2; subst this
        cases h3 with
        | msl _ _ _ _ _ _ hp2 =>
          have hv := (hp2 l hl).2 hro.2.2.2.1.symm
          rw [hv]
          exact .d _ _ (RD.ofBuf hro (fun _ h => .inl h) (fun b hb => .inr hb) (Nat.le_of_ble_eq_true e3))
      · exact h4
    · exact h4
  have := h.2 w (fun b => Im b ∨ b ∈ l.fp) (fun _ => none) vs hG (fun b hb => hb.elim (hIm b) fun hb => (hown b hb).1) (fun b hb => .inl (hgl b hb)) (by simpa using hsz) (fun i v x h1 h2 => (hra1 i v x h1 h2).mono (fun _ h => h) (fun _ _ => rfl) fun q hq l' hl' => by simp at hl') ⟨fun r o h => by simp [lkH] at h, fun r r' o o' l l' h => by simp [lkH] at h⟩
  have hT : ∀ b, TIn (fun _ => none) [] b → False := fun b ⟨r, o, l, h, _⟩ => by simp [lkH] at h
  have hTin : ∀ b ∈ l.fp, TIn ρ [(r, some (.buf sz el els))] b := fun b hb => ⟨r, .buf sz el els, l, by simp [lkH], hl, hb⟩
  refine this.mono fun e w' he => ?_
  cases e with
  | returned v =>
    obtain ⟨res', ho, Im', ρ', h1, h2, h3, A⟩ := he
    injection h1 with e1 e2; subst e1; subst e2
    refine ⟨res', [], Im', fun _ => none, rfl, h2.mono (fun _ h => h) (fun _ _ => rfl) (fun q hq l' hl' => by simp at hl'), h3, ?_⟩
    refine ⟨⟨A.grows.size, A.grows.os, A.grows.tape, A.grows.output, fun b hb hn => A.grows.block b hb fun h => hT b h⟩, fun b hb => A.im b (.inl hb), fun b hb => ?_, ⟨fun q o hq => by simp [lkH] at hq, fun q q' o o' l1 l2 hq => by simp [lkH] at hq⟩, fun q o hq l' hl' => by simp at hl', A.cl⟩
    obtain ⟨g1, g2⟩ := A.imn b hb
    refine ⟨g1, ?_⟩
    rcases g2 with (g2 | g2) | g2 | g2
    · exact .inl g2
    · exact .inr (.inr (hTin b g2))
    · exact .inr (.inl g2)
    · exact (hT b g2).elim
  | panicked ch =>
    obtain ⟨ho, Im', ρ', h1, h4⟩ := he
    exact absurd h1 (by simp)
  | outgrown => exact he
theorem CallP.give {E : Env} {k : Kn} {f : FuncId} {args : List AV} {s : St} {K : AV → HL → Prop} {KP : List PanicEntry → HL → Prop} {res : AV} (r sz : Nat) (el : TypeId) (els : List (List D)) (hr : lkH r s.h = some (.buf sz el els)) (h : Ctr E f (args.map (frz r sz els)) [] fun o => o = .ret res [])
    (hk : K res ((r, none) :: s.h)) : CallP E k f args s K KP :=
  ⟨[(r, some (.buf sz el els))], _, Ctr.freeze r sz el els h, fun q o hq => by
    simp only [lkH] at hq
    split at hq
    · rename_i hb
      have := Nat.eq_of_beq_eq_true hb; subst this
      injection hq with hq; subst hq; exact hr
    · simp at hq, fun res' ho e => by injection e with e1 e2; subst e1; subst e2; exact ⟨fun r o h => by simp [lkH] at h, hk⟩, fun ch ho e => by simp at e⟩
theorem CallP.makes {E : Env} {k : Kn} {f : FuncId} {args : List AV} {s : St} {K : AV → HL → Prop} {KP : List PanicEntry → HL → Prop} {res : AV} {r : Nat} {ob : AObj} (hu : unmB k.anc r s = true) (h : Ctr E f args [] fun o => o = .ret res [(r, some ob)]) (hk : K res ((r, some ob) :: s.h)) : CallP E k f args s K KP :=
  ⟨[], _, h, fun r o h => by simp [lkH] at h, fun res' ho e => by
    injection e with e1 e2; subst e1; subst e2
    refine ⟨fun q o hq => .inr ?_, hk⟩
    simp only [lkH] at hq
    split at hq
    · rename_i hb; have := Nat.eq_of_beq_eq_true hb; subst this; exact hu
    · simp at hq, fun ch ho e => by simp at e⟩
theorem CallP.upd {E : Env} {k : Kn} {f : FuncId} {args : List AV} {s : St} {K : AV → HL → Prop} {KP : List PanicEntry → HL → Prop} {res : AV} {r : Nat} {ob ob' : AObj} (hr : lkH r s.h = some ob) (h : Ctr E f args [(r, some ob)] fun o => o = .ret res [(r, some ob')]) (hk : K res ((r, some ob') :: (r, none) :: s.h)) : CallP E k f args s K KP :=
  have one : ∀ {q o x}, lkH q [(r, some x)] = some o → q = r ∧ o = x := fun {q o x} hq => by
    simp only [lkH] at hq
    split at hq
    · rename_i hb; injection hq with hq; exact ⟨(Nat.eq_of_beq_eq_true hb).symm, hq.symm⟩
    · simp at hq
  ⟨[(r, some ob)], _, h, fun q o hq => by obtain ⟨rfl, rfl⟩ := one hq; exact hr, fun res' ho e => by
    injection e with e1 e2; subst e1; subst e2
    exact ⟨fun q o hq => .inl (by obtain ⟨rfl, rfl⟩ := one hq; exact ⟨ob, by simp [lkH]⟩), hk⟩, fun ch ho e => by simp at e⟩
theorem AWp.ownCell {E : Env} {code : Code} {Q : APost} {s : St} (q i r sz : Nat) (el : TypeId) (cs : List AV) (hq : lkH q s.h = some (.var cs)) (hi : cs[i]? = some (.d (.v (.slice none 0 0)))) (hu : unmB k.anc r s = true)
    (h : AWp E k code Q { f := s.f, h := (r, some (.buf sz el [])) :: (q, some (.var (cs.set i (.msl r 0 0 0)))) :: s.h }) : AWp E k code Q s := fun c ok hn ha Im ρ a w S => by
  have hun := unmB_spec (c := c) (by rw [ha]; exact hu)
  have hne : q ≠ r := fun e => by
    subst e
    have h1 : lkH q s.h = none := hun.none
    rw [hq] at h1; simp at h1
  have S1 := S.new (w' := w) (r := r) (l := { blk := none, isBuf := true, sz := sz }) (o := .buf sz el []) (Grows.refl w _) hun (by simp [Loc.fp]) ⟨rfl, rfl, rfl, rfl, by simp, .inl ⟨rfl, rfl, rfl⟩⟩
  obtain ⟨l, hl, hro, _⟩ := S1.obj q (.var cs) (by rw [upd_ne _ _ hne]; exact hq)
  have S2 := S1.chg (w' := w) (r := q) (l := l) (l' := l) (o' := .var (cs.set i (.msl r 0 0 0))) (by rw [upd_ne _ _ hne]; exact hq) hl (Grows.refl w _) (.inl rfl) (fun b hb => .inl hb) (by
    have hρ : upd (upd ρ r (some { blk := none, isBuf := true, sz := sz })) q (some l) = upd ρ r (some { blk := none, isBuf := true, sz := sz }) := by
      funext x
      by_cases hx : x = q
      · subst hx; rw [upd_same, hl]
      · rw [upd_ne _ _ hx]
    rw [hρ]
    refine ⟨hro.1, hro.2.1, ?_⟩
    obtain ⟨b, ms, t, h1, h2, h3, h4⟩ := hro.2.2
    refine ⟨b, ms, t, h1, h2, by simpa using h3, fun j v hv x hx => ?_⟩
    by_cases hj : i = j
    · subst hj
      have hil := (List.getElem?_eq_some_iff.1 hi).1
      rw [List.getElem?_set_self hil] at hx
      injection hx with hx; subst hx
      obtain ⟨h5, h6⟩ := h4 i v hv _ hi
      have := h5.v
      subst this
      refine ⟨.msl _ r 0 0 0 rfl fun l2 hl2 => ?_, rfl⟩
      rw [upd_same] at hl2; injection hl2 with hl2; subst hl2
      exact ⟨by simp, fun _ => rfl⟩
    · rw [List.getElem?_set_ne hj] at hx
      exact h4 j v hv x hx)
  refine h c ok hn ha Im (upd (upd ρ r (some { blk := none, isBuf := true, sz := sz })) q (some l)) a w ?_
  have e2 : (St.H { f := s.f, h := (r, some (.buf sz el [])) :: (q, some (.var (cs.set i (.msl r 0 0 0)))) :: s.h }) = upd (upd s.H r (some (.buf sz el []))) q (some (.var (cs.set i (.msl r 0 0 0)))) := by
    funext x
    by_cases hx : x = r
    · subst hx
      rw [upd_ne _ _ (Ne.symm hne), upd_same]
      simp [St.H, lkH]
    · rw [show St.H { f := s.f, h := (r, some (.buf sz el [])) :: (q, some (.var (cs.set i (.msl r 0 0 0)))) :: s.h } x = upd (fun t => lkH t ((q, some (.var (cs.set i (.msl r 0 0 0)))) :: s.h)) r (some (.buf sz el [])) x from congrFun (lkH_cons r _ _) x, upd_ne _ _ hx]
      show lkH x ((q, some (.var (cs.set i (.msl r 0 0 0)))) :: s.h) = _
      rw [congrFun (lkH_cons q (some (.var (cs.set i (.msl r 0 0 0)))) s.h) x]
      by_cases hx2 : x = q
      · subst hx2; rw [upd_same, upd_same]
      · rw [upd_ne _ _ hx2, upd_ne _ _ hx2, upd_ne _ _ hx]
  rw [e2]
  exact S2
theorem LoopP.ownCell {E : Env} {code : Code} {Q : APost} {s : St} (q i r sz : Nat) (el : TypeId) (cs : List AV) (hq : lkH q s.h = some (.var cs)) (hi : cs[i]? = some (.d (.v (.slice none 0 0)))) (hu : unmB k.anc r s = true)
    (h : LoopP E k code Q { f := s.f, h := (r, some (.buf sz el [])) :: (q, some (.var (cs.set i (.msl r 0 0 0)))) :: s.h }) : LoopP E k code Q s := ⟨.ownCell q i r sz el cs hq hi hu h.ok⟩
theorem Ctr.re {E : Env} {f : FuncId} {args : List AV} {hin : HL} {post post' : AOut → Prop} (h : Ctr E f args hin post)
    (hle : ∀ o, post o → ∃ r r', o = .ret r [] ∧ (∀ (w : World) (Im : Nat → Prop) (ρ : Nat → Option Loc) (v : Value), RA (hp w) Im ρ v r → RA (hp w) Im ρ v r') ∧ (∀ q, r'.ment q = false) ∧ post' (.ret r' [])) : Ctr E f args hin post' :=
  ⟨h.1, fun w Im ρ vs g1 g2 g3 g4 g5 g6 => (h.2 w Im ρ vs g1 g2 g3 g4 g5 g6).mono fun e w' he => by
    cases e with
    | returned v =>
      obtain ⟨res, ho', Im', ρ', h1, h2, h3, A⟩ := he
      obtain ⟨r, r', e1, e2, e3, e4⟩ := hle _ h1
      injection e1 with e1 e5; subst e1; subst e5
      exact ⟨r', _, Im', ρ', e4, e2 _ _ _ _ h2, fun q hq => by rw [e3 q] at hq; simp at hq, A⟩
    | panicked ch =>
      obtain ⟨ho', Im', ρ', h1, _⟩ := he
      obtain ⟨r, r', e1, _⟩ := hle _ h1
      exact absurd e1 (by simp)
    | outgrown => exact he⟩
theorem bsz (a : Array UInt8) : (ByteArray.mk a).size = a.size := rfl
theorem RA.dagg_of {h : Nat → Option Obj} {Im : Nat → Prop} {ρ : Nat → Option Loc} {v : Value} {l : List D} (H : RA h Im ρ v (.agg (l.map .d))) : RA h Im ρ v (.dagg l) := by
  cases H with
  | agg cs _ hl hr =>
    refine .dagg cs l (by simpa using hl) fun i v x h1 h2 => ?_
    have := hr i v (.d x) h1 (by simp [h2])
    cases this; assumption
def DLe (x y : D) : Prop := x = y ∨ (x = .v (.slice none 0 0) ∧ ∃ t sz, y = .sl t sz []) ∨ (∃ t sz els, x = .sl t sz els ∧ y = .sl false sz els)
theorem RD.le {h : Nat → Option Obj} {Im : Nat → Prop} {v : Value} {x y : D} (H : RD h Im v x) (hxy : DLe x y) : RD h Im v y := by
  rcases hxy with rfl | ⟨rfl, t, sz, rfl⟩ | ⟨t, sz, els, rfl, rfl⟩
  · exact H
  · cases H with
    | v _ _ => exact .nil t sz none 0 fun _ => rfl
  · exact H.loose
def DLes : List D → List D → Prop
  | [], [] => True
  | x :: xs, y :: ys => DLe x y ∧ DLes xs ys
  | _, _ => False
theorem DLes.at : ∀ {xs ys : List D}, DLes xs ys → xs.length = ys.length ∧ ∀ (i : Nat) (x y : D), xs[i]? = some x → ys[i]? = some y → DLe x y
  | [], [], _ => ⟨rfl, by simp⟩
  | x :: xs, y :: ys, h => by
    obtain ⟨h1, h2⟩ := DLes.at h.2
    refine ⟨by simp [h1], fun i a b ha hb => ?_⟩
    cases i with
    | zero => simp at ha hb; subst ha; subst hb; exact h.1
    | succ i => exact h2 i a b (by simpa using ha) (by simpa using hb)
theorem RA.dagg_le {h : Nat → Option Obj} {Im : Nat → Prop} {ρ : Nat → Option Loc} {v : Value} {xs ys : List D} (H : RA h Im ρ v (.dagg xs)) (hxy : DLes xs ys) : RA h Im ρ v (.dagg ys) := by
  cases H with
  | dagg cs _ hl hr =>
    obtain ⟨h1, h2⟩ := hxy.at
    refine .dagg cs _ (hl.trans h1) fun i v y e1 e2 => ?_
    have hi : i < xs.length := by rw [h1]; exact (List.getElem?_eq_some_iff.1 e2).1
    exact (hr i v _ e1 (List.getElem?_eq_getElem hi)).le (h2 i _ y (List.getElem?_eq_getElem hi) e2)
theorem AWp.asVar {E : Env} {code : Code} {Q : APost} {s : St} (q n : Nat) (cs : List D) (hq : lkH q s.h = some (.dvar n cs)) (h : AWp E k code Q { f := s.f, h := (q, some (.var (cs.map .d))) :: s.h }) : AWp E k code Q s := fun c ok hn ha Im ρ a w S => by
  obtain ⟨l, hl, hro, _⟩ := S.obj q (.dvar n cs) hq
  have hρ : upd ρ q (some l) = ρ := by
    funext x
    by_cases hx : x = q
    · subst hx; rw [upd_same, hl]
    · rw [upd_ne _ _ hx]
  have S2 := S.chg (w' := w) (r := q) (l := l) (l' := l) (o' := .var (cs.map .d)) hq hl (Grows.refl w _) (.inl rfl) (fun b hb => .inl hb) (by
    rw [hρ]
    obtain ⟨h1, h2, h3, b, ms, t, h4, h5, h6, h7⟩ := hro
    refine ⟨h1, h2, b, ms, t, h4, h5, by simpa [h3] using h6, fun j v hv x hx => ?_⟩
    simp only [List.getElem?_map, Option.map_eq_some_iff] at hx
    obtain ⟨y, hy, rfl⟩ := hx
    exact ⟨.d _ _ (h7 j v hv y hy), (h7 j v hv y hy).one⟩)
  rw [hρ] at S2
  refine h c ok hn ha Im ρ a w ?_
  have e2 : (St.H { f := s.f, h := (q, some (.var (cs.map .d))) :: s.h }) = upd s.H q (some (.var (cs.map .d))) := lkH_cons q _ s.h
  rw [e2]
  exact S2
theorem LoopP.asVar {E : Env} {code : Code} {Q : APost} {s : St} (q n : Nat) (cs : List D) (hq : lkH q s.h = some (.dvar n cs)) (h : LoopP E k code Q { f := s.f, h := (q, some (.var (cs.map .d))) :: s.h }) : LoopP E k code Q s := ⟨.asVar q n cs hq h.ok⟩
end Go.Ax

namespace Go.Ax
def swp (a b r : Nat) : Nat := match Nat.beq r a with
  | true => b
  | false => match Nat.beq r b with
    | true => a
    | false => r
theorem swp_eq (a b r : Nat) : swp a b r = if r = a then b else if r = b then a else r := by
  unfold swp
  by_cases h : r = a
  · subst h; simp
  · have h1 : Nat.beq r a = false := by
      cases hb : Nat.beq r a with
      | false => rfl
      | true => exact absurd (Nat.eq_of_beq_eq_true hb) h
    simp only [h1, if_neg h]
    by_cases h2 : r = b
    · subst h2; simp
    · have h3 : Nat.beq r b = false := by
        cases hb : Nat.beq r b with
        | false => rfl
        | true => exact absurd (Nat.eq_of_beq_eq_true hb) h2
      simp [h3, h2]
theorem swp_swp (a b r : Nat) : swp a b (swp a b r) = r := by
  simp only [swp_eq]
  by_cases h : r = a
  · subst h; by_cases h2 : b = r <;> simp [h2]
  · by_cases h2 : r = b
    · subst h2; simp [h]
    · simp [h, h2]
theorem swp_inj {a b x y : Nat} (h : swp a b x = swp a b y) : x = y := by rw [← swp_swp a b x, h, swp_swp]
mutual
def AV.swap (a b : Nat) : AV → AV
  | .junk => .junk
  | .d x => .d x
  | .dagg cs => .dagg cs
  | .agg cs => .agg (AV.swapL a b cs)
  | .tup vs => .tup (AV.swapL a b vs)
  | .ptr r off => .ptr (swp a b r) off
  | .ep cs => .ep cs
  | .msl r n off len => .msl (swp a b r) n off len
  | .mptr r n i j => .mptr (swp a b r) n i j
  | .mp r => .mp (swp a b r)
  | .clo fn f c => .clo fn (AV.swapL a b f) (AV.swapL a b c)
  | .ifc t x => .ifc t (AV.swap a b x)
def AV.swapL (a b : Nat) : List AV → List AV
  | [] => []
  | x :: xs => AV.swap a b x :: AV.swapL a b xs
end
def AObj.swap (a b : Nat) : AObj → AObj
  | .var cs => .var (AV.swapL a b cs)
  | .dvar n cs => .dvar n cs
  | .buf sz e els => .buf sz e els
  | .map ag es => .map ag es
  | .siter m p => .siter m p
  | .tvar t cs => .tvar t cs
  | .ext R => .ext R
  | .gst K h0 R => .gst K h0 R
def HL.swap (a b : Nat) : HL → HL
  | [] => []
  | (r, some o) :: h => (swp a b r, some (o.swap a b)) :: HL.swap a b h
  | (r, none) :: h => (swp a b r, none) :: HL.swap a b h
theorem swapL_get (a b : Nat) : ∀ (l : List AV) (i : Nat), (AV.swapL a b l)[i]? = (l[i]?).map (AV.swap a b)
  | [], i => by simp [AV.swapL]
  | x :: xs, 0 => by simp [AV.swapL]
  | x :: xs, i + 1 => by simp [AV.swapL, swapL_get a b xs i]
theorem swapL_length (a b : Nat) : ∀ (l : List AV), (AV.swapL a b l).length = l.length
  | [] => rfl
  | x :: xs => by simp [AV.swapL, swapL_length a b xs]
theorem RA.swap {h : Nat → Option Obj} {Im : Nat → Prop} {ρ ρ' : Nat → Option Loc} (a b : Nat) (hρ : ∀ r, ρ' (swp a b r) = ρ r) {v : Value} {x : AV} (H : RA h Im ρ v x) : RA h Im ρ' v (x.swap a b) := by
  induction H with
  | junk x => exact .junk x
  | d x y hd => exact .d x y hd
  | dagg cs l hl hr => exact .dagg cs l hl hr
  | agg cs l hl hr ih =>
    exact .agg cs _ (by rw [swapL_length]; exact hl) fun i v x h1 h2 => by
      rw [swapL_get, Option.map_eq_some_iff] at h2
      obtain ⟨y, hy, rfl⟩ := h2
      exact ih i v y h1 hy
  | tup cs l hl hr ih =>
    exact .tup cs _ (by rw [swapL_length]; exact hl) fun i v x h1 h2 => by
      rw [swapL_get, Option.map_eq_some_iff] at h2
      obtain ⟨y, hy, rfl⟩ := h2
      exact ih i v y h1 hy
  | ptr x r off h1 hp => exact .ptr x _ off h1 fun l hl => hp l (by rw [← hρ r]; exact hl)
  | ep b o cs f hb hc hr => exact .ep b o cs f hb hc hr
  | msl x r n off len h1 hp => exact .msl x _ n off len h1 fun l hl => hp l (by rw [← hρ r]; exact hl)
  | mptr x r n i j h1 hp => exact .mptr x _ n i j h1 fun l hl => hp l (by rw [← hρ r]; exact hl)
  | mp x r h1 hp => exact .mp x _ h1 fun l hl => hp l (by rw [← hρ r]; exact hl)
  | clo fn fs cs lf lc hf hc hrf hrc ihf ihc =>
    exact .clo fn fs cs _ _ (by rw [swapL_length]; exact hf) (by rw [swapL_length]; exact hc)
      (fun i v x h1 h2 => by
        rw [swapL_get, Option.map_eq_some_iff] at h2
        obtain ⟨y, hy, rfl⟩ := h2
        exact ihf i v y h1 hy) (fun i v x h1 h2 => by
        rw [swapL_get, Option.map_eq_some_iff] at h2
        obtain ⟨y, hy, rfl⟩ := h2
        exact ihc i v y h1 hy)
  | ifc t x y hx ih => exact .ifc t x _ ih
theorem RO.swap {h : Nat → Option Obj} {Im : Nat → Prop} {ρ ρ' : Nat → Option Loc} (a b : Nat) (hρ : ∀ r, ρ' (swp a b r) = ρ r) {l : Loc} {o : AObj} (H : RO h Im ρ l o) : RO h Im ρ' l (o.swap a b) := by
  cases o with
  | var cs =>
    refine ⟨H.1, H.2.1, ?_⟩
    obtain ⟨bk, ms, t, h1, h2, h3, h4⟩ := H.2.2
    refine ⟨bk, ms, t, h1, h2, by rw [swapL_length]; exact h3, fun i v hv x hx => ?_⟩
    rw [swapL_get, Option.map_eq_some_iff] at hx
    obtain ⟨y, hy, rfl⟩ := hx
    exact ⟨(h4 i v hv y hy).1.swap a b hρ, (h4 i v hv y hy).2⟩
  | dvar n cs => exact H
  | buf sz e els => exact H
  | map ag es => exact H
  | siter m p => exact H
  | tvar t cs => exact H
  | ext R => exact H
  | gst K h0 R => exact H
theorem lkH_swap (a b r : Nat) : ∀ (h : HL), lkH (swp a b r) (HL.swap a b h) = (lkH r h).map (AObj.swap a b)
  | [] => rfl
  | (q, some o) :: h => by
    simp only [HL.swap, lkH]
    by_cases e : q = r
    · subst e; simp
    · have h1 : Nat.beq q r = false := by
        cases hb : Nat.beq q r with
        | false => rfl
        | true => exact absurd (Nat.eq_of_beq_eq_true hb) e
      have h2 : Nat.beq (swp a b q) (swp a b r) = false := by
        cases hb : Nat.beq (swp a b q) (swp a b r) with
        | false => rfl
        | true => exact absurd (swp_inj (Nat.eq_of_beq_eq_true hb)) e
      simp only [h1, h2]; exact lkH_swap a b r h
  | (q, none) :: h => by
    simp only [HL.swap, lkH]
    by_cases e : q = r
    · subst e; simp
    · have h1 : Nat.beq q r = false := by
        cases hb : Nat.beq q r with
        | false => rfl
        | true => exact absurd (Nat.eq_of_beq_eq_true hb) e
      have h2 : Nat.beq (swp a b q) (swp a b r) = false := by
        cases hb : Nat.beq (swp a b q) (swp a b r) with
        | false => rfl
        | true => exact absurd (swp_inj (Nat.eq_of_beq_eq_true hb)) e
      simp only [h1, h2]; exact lkH_swap a b r h
theorem lkH_unswap {a b r : Nat} {h : HL} {o : AObj} (hr : lkH r (HL.swap a b h) = some o) : ∃ o', lkH (swp a b r) h = some o' ∧ o = o'.swap a b := by
  have := lkH_swap a b (swp a b r) h
  rw [swp_swp, hr] at this
  obtain ⟨o', h1, h2⟩ := Option.map_eq_some_iff.1 this.symm
  exact ⟨o', h1, h2.symm⟩
theorem ment_swap (a b : Nat) : ∀ (r : Nat) (x : AV), (x.swap a b).ment r = x.ment (swp a b r) := by
  have hb : ∀ q r, Nat.beq (swp a b q) r = Nat.beq q (swp a b r) := fun q r => by
    by_cases e : q = swp a b r
    · subst e; rw [swp_swp]; simp
    · have h1 : Nat.beq q (swp a b r) = false := by
        cases hb : Nat.beq q (swp a b r) with
        | false => rfl
        | true => exact absurd (Nat.eq_of_beq_eq_true hb) e
      have h2 : Nat.beq (swp a b q) r = false := by
        cases hb : Nat.beq (swp a b q) r with
        | false => rfl
        | true => exact absurd (by rw [← Nat.eq_of_beq_eq_true hb, swp_swp]) e
      rw [h1, h2]
  intro r x
  induction x using AV.rec (motive_2 := fun l => AV.ment.mentL r (AV.swapL a b l) = AV.ment.mentL (swp a b r) l) with
  | junk => rfl
  | d x => rfl
  | dagg cs => rfl
  | agg cs ih => simpa [AV.swap, AV.ment] using ih
  | tup cs ih => simpa [AV.swap, AV.ment] using ih
  | ptr q off => exact hb q r
  | ep cs => rfl
  | msl q n off len => exact hb q r
  | mptr q n i j => exact hb q r
  | mp q => exact hb q r
  | clo fn f c ih1 ih2 => simp only [AV.swap, AV.ment, ih1, ih2]
  | ifc t x ih => simpa [AV.swap, AV.ment] using ih
  | nil => rfl
  | cons x xs ih1 ih2 => simp only [AV.swapL, AV.ment.mentL, ih1, ih2]
theorem mentO_swap (a b r : Nat) (x : AObj) : (x.swap a b).ment r = x.ment (swp a b r) := by
  cases x with
  | var cs =>
    simp only [AObj.swap, AObj.ment]
    induction cs with
    | nil => rfl
    | cons x xs ih => simp only [AV.swapL, AV.ment.mentL, ih, ment_swap]
  | _ => rfl
theorem Ctr.swap {E : Env} {f : FuncId} {args : List AV} {hin ho : HL} {res : AV} (a b : Nat) (h : Ctr E f args hin fun o => o = .ret res ho) : Ctr E f (AV.swapL a b args) (HL.swap a b hin) fun o => o = .ret (res.swap a b) (HL.swap a b ho) := by
  refine ⟨h.1, fun w Im ρ vs hG hIm hgl hsz hra hrel => ?_⟩
  -- the names as the contract has them
  have back : ∀ x : AV, (x.swap a b).swap a b = x := by
    intro x
    induction x using AV.rec (motive_2 := fun l => AV.swapL a b (AV.swapL a b l) = l) with
    | junk => rfl
    | d x => rfl
    | dagg cs => rfl
    | agg cs ih => simp [AV.swap, ih]
    | tup cs ih => simp [AV.swap, ih]
    | ptr q off => simp [AV.swap, swp_swp]
    | ep cs => rfl
    | msl q n off len => simp [AV.swap, swp_swp]
    | mptr q n i j => simp [AV.swap, swp_swp]
    | mp q => simp [AV.swap, swp_swp]
    | clo fn f c ih1 ih2 => simp [AV.swap, ih1, ih2]
    | ifc t x ih => simp [AV.swap, ih]
    | nil => rfl
    | cons x xs ih1 ih2 => simp [AV.swapL, ih1, ih2]
  have backO : ∀ o : AObj, (o.swap a b).swap a b = o := fun o => by
    cases o with
    | var cs =>
      have : ∀ l : List AV, AV.swapL a b (AV.swapL a b l) = l := fun l => by induction l with
        | nil => rfl
        | cons x xs ih => simp [AV.swapL, ih, back]
      simp [AObj.swap, this]
    | _ => rfl
  have hρ : ∀ r, (fun q => ρ (swp a b q)) (swp a b r) = ρ r := fun r => by simp only [swp_swp]
  have hT : ∀ bk, TIn (fun q => ρ (swp a b q)) hin bk → TIn ρ (HL.swap a b hin) bk := fun bk ⟨r, o, l, h1, h2, h3⟩ => ⟨swp a b r, o.swap a b, l, by rw [lkH_swap, h1]; rfl, h2, h3⟩
  have hT' : ∀ bk, TIn ρ (HL.swap a b hin) bk → TIn (fun q => ρ (swp a b q)) hin bk := fun bk ⟨r, o, l, h1, h2, h3⟩ => by
    obtain ⟨o', h4, _⟩ := lkH_unswap h1
    exact ⟨swp a b r, o', l, h4, by simp only [swp_swp]; exact h2, h3⟩
  have := h.2 w Im (fun q => ρ (swp a b q)) vs hG hIm hgl (by rw [hsz, swapL_length]) (fun i v x h1 h2 => by
    have h3 := hra i v (x.swap a b) h1 (by rw [swapL_get, h2]; rfl)
    have h4 := h3.swap (ρ' := fun q => ρ (swp a b q)) a b hρ
    rw [back] at h4; exact h4) ⟨fun r o hr => by
      obtain ⟨l, h1, h2, h3⟩ := hrel.obj (swp a b r) (o.swap a b) (by rw [lkH_swap, hr]; rfl)
      have h4 := h2.swap (ρ' := fun q => ρ (swp a b q)) a b hρ
      rw [backO] at h4
      exact ⟨l, h1, h4, h3⟩, fun r r' o o' l l' h1 h2 hne g1 g2 => hrel.dis (swp a b r) (swp a b r') (o.swap a b) (o'.swap a b) l l' (by rw [lkH_swap, h1]; rfl) (by rw [lkH_swap, h2]; rfl) (fun e => hne (swp_inj e)) g1 g2⟩
  refine this.mono fun e w' he => ?_
  cases e with
  | returned v =>
    obtain ⟨res', ho', Im', ρ', h1, h2, h3, A⟩ := he
    injection h1 with e1 e2; subst e1; subst e2
    have hρ' : ∀ r, (fun q => ρ' (swp a b q)) (swp a b r) = ρ' r := fun r => by simp only [swp_swp]
    refine ⟨_, _, Im', fun q => ρ' (swp a b q), rfl, h2.swap a b hρ', fun r hr => ?_, ?_⟩
    · rw [ment_swap] at hr
      have := h3 _ hr
      rw [← swp_swp a b r, lkH_swap]
      simpa using this
    · refine ⟨⟨A.grows.size, A.grows.os, A.grows.tape, A.grows.output, fun bk hb hn => A.grows.block bk hb fun h => hn (hT bk h)⟩, A.im, fun bk hb => ⟨(A.imn bk hb).1, (A.imn bk hb).2.imp id fun h => h.imp id (hT bk)⟩, ⟨fun r o hr => ?_, fun r r' o o' l l' h1 h2 hne g1 g2 => ?_⟩, fun r o hr l' hl' => ?_, fun r o hr q hq => ?_⟩
      · obtain ⟨o', h4, rfl⟩ := lkH_unswap hr
        obtain ⟨l, h5, h6, h7⟩ := A.rel.obj _ o' h4
        exact ⟨l, h5, h6.swap a b hρ', fun bk hb => ⟨(h7 bk hb).1, (h7 bk hb).2.1, (h7 bk hb).2.2.imp id (hT bk)⟩⟩
      · obtain ⟨o1, h4, _⟩ := lkH_unswap h1
        obtain ⟨o2, h5, _⟩ := lkH_unswap h2
        exact A.rel.dis _ _ o1 o2 l l' h4 h5 (fun e => hne (swp_inj e)) g1 g2
      · obtain ⟨o', h4, _⟩ := lkH_unswap hr
        obtain ⟨l, h5, h6⟩ := A.anc _ o' h4 l' hl'
        simp only [swp_swp] at h5
        exact ⟨l, h5, h6⟩
      · obtain ⟨o', h4, rfl⟩ := lkH_unswap hr
        rw [mentO_swap] at hq
        have := A.cl _ o' h4 _ hq
        rw [← swp_swp a b q, lkH_swap]
        simpa using this
  | panicked ch =>
    obtain ⟨ho', Im', ρ', h1, h4⟩ := he
    exact absurd h1 (by simp)
  | outgrown => exact he
end Go.Ax
