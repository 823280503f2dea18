/- What the card of this claim stands on, or the card itself: for every input, as the given row says. -/
import Derived.Test.YtjcgfiidbpailaaDoorProg
import Derived.KernelRfl
import Derived.Laws.BitsLemmas
import Derived.Laws.Bits64
import Derived.LoopNIn
import Derived.Recover
import Derived.Test.YtjcgfiidbpailaaDoorSA05
namespace Go.Ax
open Go.Proofs
def Tryd.tab : List (Nat × TI) := [
  (1, ⟨.func, 1, 8, [.nilFunc], []⟩),
  (2, ⟨(.int .i64), 1, 8, [.int .i64 0], [.int .i64]⟩),
  (3, ⟨(.int .i64), 1, 8, [.int .i64 0], [.int .i64]⟩),
  (4, ⟨.bool, 1, 1, [.bool false], [.bool]⟩),
  (5, ⟨(.int .u8), 1, 1, [.int .u8 0], [.int .u8]⟩),
  (6, ⟨(.int .u8), 1, 1, [.int .u8 0], [.int .u8]⟩),
  (7, ⟨(.struct [(0, 2), (1, 3), (2, 4), (3, 6)]), 4, 24, [.int .i64 0, .int .i64 0, .bool false, .int .u8 0], [.int .i64, .int .i64, .bool, .int .u8]⟩),
  (8, ⟨(.struct [(0, 2), (1, 3), (2, 4), (3, 6)]), 4, 24, [.int .i64 0, .int .i64 0, .bool false, .int .u8 0], [.int .i64, .int .i64, .bool, .int .u8]⟩),
  (9, ⟨.str, 1, 16, [.string ⟨#[]⟩], [.str]⟩),
  (10, ⟨.str, 1, 16, [.string ⟨#[]⟩], [.str]⟩),
  (11, ⟨.str, 1, 16, [.string ⟨#[]⟩], [.str]⟩),
  (12, ⟨(.int .u64), 1, 8, [.int .u64 0], [.int .u64]⟩),
  (13, ⟨(.struct [(0, 9), (1, 12)]), 2, 24, [.string ⟨#[]⟩, .int .u64 0], []⟩),
  (14, ⟨(.struct [(0, 9), (1, 12)]), 2, 24, [.string ⟨#[]⟩, .int .u64 0], []⟩),
  (15, ⟨(.ptr 244), 1, 8, [.pointer none], []⟩),
  (16, ⟨(.ptr 247), 1, 8, [.pointer none], []⟩),
  (17, ⟨(.ptr 254), 1, 8, [.pointer none], []⟩),
  (18, ⟨(.struct [(0, 17)]), 1, 8, [.pointer none], []⟩),
  (19, ⟨(.struct [(0, 17)]), 1, 8, [.pointer none], []⟩),
  (20, ⟨.iface, 1, 16, [.nilIface], []⟩),
  (21, ⟨(.int .i32), 1, 4, [.int .i32 0], [.int .i32]⟩),
  (22, ⟨(.int .u16), 1, 2, [.int .u16 0], [.int .u16]⟩),
  (23, ⟨(.array 8 22), 8, 16, [.int .u16 0, .int .u16 0, .int .u16 0, .int .u16 0, .int .u16 0, .int .u16 0, .int .u16 0, .int .u16 0], [.int .u16, .int .u16, .int .u16, .int .u16, .int .u16, .int .u16, .int .u16, .int .u16]⟩),
  (24, ⟨(.array 8 22), 8, 16, [.int .u16 0, .int .u16 0, .int .u16 0, .int .u16 0, .int .u16 0, .int .u16 0, .int .u16 0, .int .u16 0], [.int .u16, .int .u16, .int .u16, .int .u16, .int .u16, .int .u16, .int .u16, .int .u16]⟩),
  (25, ⟨(.array 2 22), 2, 4, [.int .u16 0, .int .u16 0], [.int .u16, .int .u16]⟩),
  (26, ⟨.func, 1, 8, [.nilFunc], []⟩),
  (27, ⟨.func, 1, 8, [.nilFunc], []⟩),
  (28, ⟨(.struct [(0, 3), (1, 22)]), 2, 16, [.int .i64 0, .int .u16 0], [.int .i64, .int .u16]⟩),
  (29, ⟨(.struct [(0, 3), (1, 22)]), 2, 16, [.int .i64 0, .int .u16 0], [.int .i64, .int .u16]⟩),
  (30, ⟨(.slice 29), 1, 24, [.slice none 0 0], []⟩),
  (31, ⟨(.slice 29), 1, 24, [.slice none 0 0], []⟩),
  (32, ⟨.func, 1, 8, [.nilFunc], []⟩),
  (33, ⟨.func, 1, 8, [.nilFunc], []⟩),
  (34, ⟨.func, 1, 8, [.nilFunc], []⟩),
  (35, ⟨(.slice 9), 1, 24, [.slice none 0 0], []⟩),
  (36, ⟨.func, 1, 8, [.nilFunc], []⟩),
  (38, ⟨.func, 1, 8, [.nilFunc], []⟩),
  (39, ⟨(.struct [(0, 22), (1, 22)]), 2, 4, [.int .u16 0, .int .u16 0], [.int .u16, .int .u16]⟩),
  (40, ⟨(.struct [(0, 22), (1, 22)]), 2, 4, [.int .u16 0, .int .u16 0], [.int .u16, .int .u16]⟩),
  (41, ⟨.func, 1, 8, [.nilFunc], []⟩),
  (42, ⟨.func, 1, 8, [.nilFunc], []⟩),
  (43, ⟨.func, 1, 8, [.nilFunc], []⟩),
  (44, ⟨.func, 1, 8, [.nilFunc], []⟩),
  (45, ⟨.func, 1, 8, [.nilFunc], []⟩),
  (46, ⟨(.slice 22), 1, 24, [.slice none 0 0], []⟩),
  (47, ⟨(.slice 49), 1, 24, [.slice none 0 0], []⟩),
  (48, ⟨(.struct [(0, 3), (1, 3), (2, 22), (3, 47)]), 4, 48, [.int .i64 0, .int .i64 0, .int .u16 0, .slice none 0 0], []⟩),
  (49, ⟨(.struct [(0, 3), (1, 3), (2, 22), (3, 47)]), 4, 48, [.int .i64 0, .int .i64 0, .int .u16 0, .slice none 0 0], []⟩),
  (50, ⟨(.slice 93), 1, 24, [.slice none 0 0], []⟩),
  (51, ⟨(.struct [(0, 46), (1, 49), (5, 50)]), 6, 96, [.slice none 0 0, .int .i64 0, .int .i64 0, .int .u16 0, .slice none 0 0, .slice none 0 0], []⟩),
  (52, ⟨(.struct [(0, 46), (1, 49), (5, 50)]), 6, 96, [.slice none 0 0, .int .i64 0, .int .i64 0, .int .u16 0, .slice none 0 0, .slice none 0 0], []⟩),
  (53, ⟨(.int .i64), 1, 8, [.int .i64 0], [.int .i64]⟩),
  (55, ⟨.func, 1, 8, [.nilFunc], []⟩),
  (56, ⟨.func, 1, 8, [.nilFunc], []⟩),
  (57, ⟨.func, 1, 8, [.nilFunc], []⟩),
  (58, ⟨(.slice 24), 1, 24, [.slice none 0 0], []⟩),
  (59, ⟨.func, 1, 8, [.nilFunc], []⟩),
  (61, ⟨.func, 1, 8, [.nilFunc], []⟩),
  (62, ⟨.func, 1, 8, [.nilFunc], []⟩),
  (64, ⟨.func, 1, 8, [.nilFunc], []⟩),
  (65, ⟨.func, 1, 8, [.nilFunc], []⟩),
  (66, ⟨.func, 1, 8, [.nilFunc], []⟩),
  (67, ⟨.func, 1, 8, [.nilFunc], []⟩),
  (68, ⟨.func, 1, 8, [.nilFunc], []⟩),
  (69, ⟨.func, 1, 8, [.nilFunc], []⟩),
  (70, ⟨(.slice 114), 1, 24, [.slice none 0 0], []⟩),
  (72, ⟨.func, 1, 8, [.nilFunc], []⟩),
  (73, ⟨(.ptr 76), 1, 8, [.pointer none], []⟩),
  (74, ⟨(.map 9 22), 1, 8, [.map none], []⟩),
  (75, ⟨(.struct [(0, 70), (1, 74), (2, 4), (3, 4)]), 4, 40, [.slice none 0 0, .map none, .bool false, .bool false], []⟩),
  (76, ⟨(.struct [(0, 70), (1, 74), (2, 4), (3, 4)]), 4, 40, [.slice none 0 0, .map none, .bool false, .bool false], []⟩),
  (78, ⟨.func, 1, 8, [.nilFunc], []⟩),
  (79, ⟨.func, 1, 8, [.nilFunc], []⟩),
  (80, ⟨(.ptr 83), 1, 8, [.pointer none], []⟩),
  (81, ⟨(.slice 5), 1, 24, [.slice none 0 0], []⟩),
  (82, ⟨(.struct [(0, 80), (1, 81)]), 2, 32, [.pointer none, .slice none 0 0], []⟩),
  (83, ⟨(.struct [(0, 80), (1, 81)]), 2, 32, [.pointer none, .slice none 0 0], []⟩),
  (84, ⟨(.struct [(0, 83)]), 2, 32, [.pointer none, .slice none 0 0], []⟩),
  (85, ⟨(.struct [(0, 83)]), 2, 32, [.pointer none, .slice none 0 0], []⟩),
  (86, ⟨.iface, 1, 16, [.nilIface], []⟩),
  (87, ⟨.iface, 1, 16, [.nilIface], []⟩),
  (89, ⟨.func, 1, 8, [.nilFunc], []⟩),
  (90, ⟨.func, 1, 8, [.nilFunc], []⟩),
  (91, ⟨.func, 1, 8, [.nilFunc], []⟩),
  (92, ⟨(.struct [(0, 30), (1, 30), (2, 30)]), 3, 72, [.slice none 0 0, .slice none 0 0, .slice none 0 0], []⟩),
  (93, ⟨(.struct [(0, 30), (1, 30), (2, 30)]), 3, 72, [.slice none 0 0, .slice none 0 0, .slice none 0 0], []⟩),
  (94, ⟨.func, 1, 8, [.nilFunc], []⟩),
  (95, ⟨.func, 1, 8, [.nilFunc], []⟩),
  (96, ⟨.func, 1, 8, [.nilFunc], []⟩),
  (97, ⟨(.slice 135), 1, 24, [.slice none 0 0], []⟩),
  (99, ⟨.func, 1, 8, [.nilFunc], []⟩),
  (100, ⟨.func, 1, 8, [.nilFunc], []⟩),
  (101, ⟨(.map 3 4), 1, 8, [.map none], []⟩),
  (102, ⟨.func, 1, 8, [.nilFunc], []⟩),
  (103, ⟨.func, 1, 8, [.nilFunc], []⟩),
  (104, ⟨.func, 1, 8, [.nilFunc], []⟩),
  (106, ⟨.func, 1, 8, [.nilFunc], []⟩),
  (108, ⟨.func, 1, 8, [.nilFunc], []⟩),
  (109, ⟨.func, 1, 8, [.nilFunc], []⟩),
  (110, ⟨.func, 1, 8, [.nilFunc], []⟩),
  (112, ⟨.func, 1, 8, [.nilFunc], []⟩),
  (113, ⟨(.struct [(0, 3), (1, 9), (2, 22)]), 3, 32, [.int .i64 0, .string ⟨#[]⟩, .int .u16 0], [.int .i64, .str, .int .u16]⟩),
  (114, ⟨(.struct [(0, 3), (1, 9), (2, 22)]), 3, 32, [.int .i64 0, .string ⟨#[]⟩, .int .u16 0], [.int .i64, .str, .int .u16]⟩),
  (115, ⟨.func, 1, 8, [.nilFunc], []⟩),
  (116, ⟨.func, 1, 8, [.nilFunc], []⟩),
  (117, ⟨.func, 1, 8, [.nilFunc], []⟩),
  (119, ⟨.func, 1, 8, [.nilFunc], []⟩),
  (120, ⟨(.struct []), 0, 0, [], []⟩),
  (121, ⟨(.struct []), 0, 0, [], []⟩),
  (123, ⟨.func, 1, 8, [.nilFunc], []⟩),
  (124, ⟨.func, 1, 8, [.nilFunc], []⟩),
  (125, ⟨.func, 1, 8, [.nilFunc], []⟩),
  (126, ⟨.func, 1, 8, [.nilFunc], []⟩),
  (127, ⟨(.ptr 85), 1, 8, [.pointer none], []⟩),
  (128, ⟨.func, 1, 8, [.nilFunc], []⟩),
  (129, ⟨.func, 1, 8, [.nilFunc], []⟩),
  (130, ⟨.func, 1, 8, [.nilFunc], []⟩),
  (131, ⟨(.ptr 5), 1, 8, [.pointer none], []⟩),
  (132, ⟨.func, 1, 8, [.nilFunc], []⟩),
  (133, ⟨.func, 1, 8, [.nilFunc], []⟩),
  (134, ⟨(.struct [(0, 4), (1, 4), (2, 3), (3, 3), (4, 30)]), 5, 48, [.bool false, .bool false, .int .i64 0, .int .i64 0, .slice none 0 0], []⟩),
  (135, ⟨(.struct [(0, 4), (1, 4), (2, 3), (3, 3), (4, 30)]), 5, 48, [.bool false, .bool false, .int .i64 0, .int .i64 0, .slice none 0 0], []⟩),
  (137, ⟨.func, 1, 8, [.nilFunc], []⟩),
  (138, ⟨.func, 1, 8, [.nilFunc], []⟩),
  (139, ⟨.func, 1, 8, [.nilFunc], []⟩),
  (140, ⟨.func, 1, 8, [.nilFunc], []⟩),
  (141, ⟨(.int .u64), 1, 8, [.int .u64 0], [.int .u64]⟩),
  (143, ⟨.func, 1, 8, [.nilFunc], []⟩),
  (144, ⟨.func, 1, 8, [.nilFunc], []⟩),
  (145, ⟨(.array 256 5), 256, 256, List.replicate 256 (.int .u8 0), List.replicate 256 (.int .u8)⟩),
  (146, ⟨(.struct [(0, 5), (1, 5)]), 2, 2, [.int .u8 0, .int .u8 0], [.int .u8, .int .u8]⟩),
  (147, ⟨(.struct [(0, 5), (1, 5)]), 2, 2, [.int .u8 0, .int .u8 0], [.int .u8, .int .u8]⟩),
  (148, ⟨(.array 16 147), 32, 32, [.int .u8 0, .int .u8 0, .int .u8 0, .int .u8 0, .int .u8 0, .int .u8 0, .int .u8 0, .int .u8 0, .int .u8 0, .int .u8 0, .int .u8 0, .int .u8 0, .int .u8 0, .int .u8 0, .int .u8 0, .int .u8 0, .int .u8 0, .int .u8 0, .int .u8 0, .int .u8 0, .int .u8 0, .int .u8 0, .int .u8 0, .int .u8 0, .int .u8 0, .int .u8 0, .int .u8 0, .int .u8 0, .int .u8 0, .int .u8 0, .int .u8 0, .int .u8 0], [.int .u8, .int .u8, .int .u8, .int .u8, .int .u8, .int .u8, .int .u8, .int .u8, .int .u8, .int .u8, .int .u8, .int .u8, .int .u8, .int .u8, .int .u8, .int .u8, .int .u8, .int .u8, .int .u8, .int .u8, .int .u8, .int .u8, .int .u8, .int .u8, .int .u8, .int .u8, .int .u8, .int .u8, .int .u8, .int .u8, .int .u8, .int .u8]⟩),
  (149, ⟨(.int .u64), 1, 8, [.int .u64 0], [.int .u64]⟩),
  (150, ⟨.func, 1, 8, [.nilFunc], []⟩),
  (151, ⟨.func, 1, 8, [.nilFunc], []⟩),
  (152, ⟨.func, 1, 8, [.nilFunc], []⟩),
  (153, ⟨.func, 1, 8, [.nilFunc], []⟩),
  (154, ⟨.func, 1, 8, [.nilFunc], []⟩),
  (155, ⟨.func, 1, 8, [.nilFunc], []⟩),
  (156, ⟨.func, 1, 8, [.nilFunc], []⟩),
  (157, ⟨.func, 1, 8, [.nilFunc], []⟩),
  (159, ⟨.func, 1, 8, [.nilFunc], []⟩),
  (160, ⟨.func, 1, 8, [.nilFunc], []⟩),
  (161, ⟨.func, 1, 8, [.nilFunc], []⟩),
  (162, ⟨.func, 1, 8, [.nilFunc], []⟩),
  (164, ⟨.func, 1, 8, [.nilFunc], []⟩),
  (166, ⟨.func, 1, 8, [.nilFunc], []⟩),
  (167, ⟨.func, 1, 8, [.nilFunc], []⟩),
  (168, ⟨.func, 1, 8, [.nilFunc], []⟩),
  (169, ⟨(.array 256 4), 256, 256, List.replicate 256 (.bool false), List.replicate 256 (.bool)⟩),
  (170, ⟨(.array 256 4), 256, 256, List.replicate 256 (.bool false), List.replicate 256 (.bool)⟩),
  (172, ⟨.func, 1, 8, [.nilFunc], []⟩),
  (173, ⟨.func, 1, 8, [.nilFunc], []⟩),
  (174, ⟨(.ptr 170), 1, 8, [.pointer none], []⟩),
  (175, ⟨.func, 1, 8, [.nilFunc], []⟩),
  (176, ⟨(.int .u32), 1, 4, [.int .u32 0], [.int .u32]⟩),
  (177, ⟨.func, 1, 8, [.nilFunc], []⟩),
  (178, ⟨(.ptr 208), 1, 8, [.pointer none], []⟩),
  (179, ⟨.func, 1, 8, [.nilFunc], []⟩),
  (180, ⟨.func, 1, 8, [.nilFunc], []⟩),
  (181, ⟨.func, 1, 8, [.nilFunc], []⟩),
  (182, ⟨.func, 1, 8, [.nilFunc], []⟩),
  (183, ⟨.func, 1, 8, [.nilFunc], []⟩),
  (184, ⟨.func, 1, 8, [.nilFunc], []⟩),
  (185, ⟨.func, 1, 8, [.nilFunc], []⟩),
  (186, ⟨.func, 1, 8, [.nilFunc], []⟩),
  (187, ⟨.func, 1, 8, [.nilFunc], []⟩),
  (188, ⟨(.array 24 5), 24, 24, [.int .u8 0, .int .u8 0, .int .u8 0, .int .u8 0, .int .u8 0, .int .u8 0, .int .u8 0, .int .u8 0, .int .u8 0, .int .u8 0, .int .u8 0, .int .u8 0, .int .u8 0, .int .u8 0, .int .u8 0, .int .u8 0, .int .u8 0, .int .u8 0, .int .u8 0, .int .u8 0, .int .u8 0, .int .u8 0, .int .u8 0, .int .u8 0], [.int .u8, .int .u8, .int .u8, .int .u8, .int .u8, .int .u8, .int .u8, .int .u8, .int .u8, .int .u8, .int .u8, .int .u8, .int .u8, .int .u8, .int .u8, .int .u8, .int .u8, .int .u8, .int .u8, .int .u8, .int .u8, .int .u8, .int .u8, .int .u8]⟩),
  (189, ⟨.func, 1, 8, [.nilFunc], []⟩),
  (190, ⟨.func, 1, 8, [.nilFunc], []⟩),
  (192, ⟨.func, 1, 8, [.nilFunc], []⟩),
  (193, ⟨.func, 1, 8, [.nilFunc], []⟩),
  (194, ⟨.func, 1, 8, [.nilFunc], []⟩),
  (195, ⟨.func, 1, 8, [.nilFunc], []⟩),
  (196, ⟨.func, 1, 8, [.nilFunc], []⟩),
  (197, ⟨.func, 1, 8, [.nilFunc], []⟩),
  (198, ⟨.func, 1, 8, [.nilFunc], []⟩),
  (199, ⟨.func, 1, 8, [.nilFunc], []⟩),
  (200, ⟨(.int .i64), 1, 8, [.int .i64 0], [.int .i64]⟩),
  (201, ⟨.func, 1, 8, [.nilFunc], []⟩),
  (202, ⟨(.ptr 228), 1, 8, [.pointer none], []⟩),
  (203, ⟨.func, 1, 8, [.nilFunc], []⟩),
  (204, ⟨.func, 1, 8, [.nilFunc], []⟩),
  (205, ⟨(.slice 210), 1, 24, [.slice none 0 0], []⟩),
  (206, ⟨(.slice 213), 1, 24, [.slice none 0 0], []⟩),
  (207, ⟨(.struct [(0, 205), (1, 206), (2, 3)]), 3, 56, [.slice none 0 0, .slice none 0 0, .int .i64 0], []⟩),
  (208, ⟨(.struct [(0, 205), (1, 206), (2, 3)]), 3, 56, [.slice none 0 0, .slice none 0 0, .int .i64 0], []⟩),
  (209, ⟨(.struct [(0, 22), (1, 22), (2, 22)]), 3, 6, [.int .u16 0, .int .u16 0, .int .u16 0], [.int .u16, .int .u16, .int .u16]⟩),
  (210, ⟨(.struct [(0, 22), (1, 22), (2, 22)]), 3, 6, [.int .u16 0, .int .u16 0, .int .u16 0], [.int .u16, .int .u16, .int .u16]⟩),
  (211, ⟨.func, 1, 8, [.nilFunc], []⟩),
  (212, ⟨(.struct [(0, 176), (1, 176), (2, 176)]), 3, 12, [.int .u32 0, .int .u32 0, .int .u32 0], [.int .u32, .int .u32, .int .u32]⟩),
  (213, ⟨(.struct [(0, 176), (1, 176), (2, 176)]), 3, 12, [.int .u32 0, .int .u32 0, .int .u32 0], [.int .u32, .int .u32, .int .u32]⟩),
  (214, ⟨.func, 1, 8, [.nilFunc], []⟩),
  (215, ⟨.func, 1, 8, [.nilFunc], []⟩),
  (216, ⟨.func, 1, 8, [.nilFunc], []⟩),
  (217, ⟨.func, 1, 8, [.nilFunc], []⟩),
  (218, ⟨.func, 1, 8, [.nilFunc], []⟩),
  (219, ⟨(.array 20 141), 20, 160, [.int .u64 0, .int .u64 0, .int .u64 0, .int .u64 0, .int .u64 0, .int .u64 0, .int .u64 0, .int .u64 0, .int .u64 0, .int .u64 0, .int .u64 0, .int .u64 0, .int .u64 0, .int .u64 0, .int .u64 0, .int .u64 0, .int .u64 0, .int .u64 0, .int .u64 0, .int .u64 0], [.int .u64, .int .u64, .int .u64, .int .u64, .int .u64, .int .u64, .int .u64, .int .u64, .int .u64, .int .u64, .int .u64, .int .u64, .int .u64, .int .u64, .int .u64, .int .u64, .int .u64, .int .u64, .int .u64, .int .u64]⟩),
  (220, ⟨(.array 65 5), 65, 65, [.int .u8 0, .int .u8 0, .int .u8 0, .int .u8 0, .int .u8 0, .int .u8 0, .int .u8 0, .int .u8 0, .int .u8 0, .int .u8 0, .int .u8 0, .int .u8 0, .int .u8 0, .int .u8 0, .int .u8 0, .int .u8 0, .int .u8 0, .int .u8 0, .int .u8 0, .int .u8 0, .int .u8 0, .int .u8 0, .int .u8 0, .int .u8 0, .int .u8 0, .int .u8 0, .int .u8 0, .int .u8 0, .int .u8 0, .int .u8 0, .int .u8 0, .int .u8 0, .int .u8 0, .int .u8 0, .int .u8 0, .int .u8 0, .int .u8 0, .int .u8 0, .int .u8 0, .int .u8 0, .int .u8 0, .int .u8 0, .int .u8 0, .int .u8 0, .int .u8 0, .int .u8 0, .int .u8 0, .int .u8 0, .int .u8 0, .int .u8 0, .int .u8 0, .int .u8 0, .int .u8 0, .int .u8 0, .int .u8 0, .int .u8 0, .int .u8 0, .int .u8 0, .int .u8 0, .int .u8 0, .int .u8 0, .int .u8 0, .int .u8 0, .int .u8 0, .int .u8 0], [.int .u8, .int .u8, .int .u8, .int .u8, .int .u8, .int .u8, .int .u8, .int .u8, .int .u8, .int .u8, .int .u8, .int .u8, .int .u8, .int .u8, .int .u8, .int .u8, .int .u8, .int .u8, .int .u8, .int .u8, .int .u8, .int .u8, .int .u8, .int .u8, .int .u8, .int .u8, .int .u8, .int .u8, .int .u8, .int .u8, .int .u8, .int .u8, .int .u8, .int .u8, .int .u8, .int .u8, .int .u8, .int .u8, .int .u8, .int .u8, .int .u8, .int .u8, .int .u8, .int .u8, .int .u8, .int .u8, .int .u8, .int .u8, .int .u8, .int .u8, .int .u8, .int .u8, .int .u8, .int .u8, .int .u8, .int .u8, .int .u8, .int .u8, .int .u8, .int .u8, .int .u8, .int .u8, .int .u8, .int .u8, .int .u8]⟩),
  (221, ⟨.func, 1, 8, [.nilFunc], []⟩),
  (222, ⟨.func, 1, 8, [.nilFunc], []⟩),
  (224, ⟨.func, 1, 8, [.nilFunc], []⟩),
  (225, ⟨.func, 1, 8, [.nilFunc], []⟩),
  (226, ⟨.func, 1, 8, [.nilFunc], []⟩),
  (227, ⟨(.struct [(0, 9), (1, 9), (2, 87)]), 3, 48, [.string ⟨#[]⟩, .string ⟨#[]⟩, .nilIface], []⟩),
  (228, ⟨(.struct [(0, 9), (1, 9), (2, 87)]), 3, 48, [.string ⟨#[]⟩, .string ⟨#[]⟩, .nilIface], []⟩),
  (229, ⟨.func, 1, 8, [.nilFunc], []⟩),
  (230, ⟨(.ptr 210), 1, 8, [.pointer none], []⟩),
  (231, ⟨(.ptr 213), 1, 8, [.pointer none], []⟩),
  (232, ⟨.func, 1, 8, [.nilFunc], []⟩),
  (233, ⟨.func, 1, 8, [.nilFunc], []⟩),
  (234, ⟨(.ptr 236), 1, 8, [.pointer none], []⟩),
  (235, ⟨(.struct [(0, 9)]), 1, 16, [.string ⟨#[]⟩], [.str]⟩),
  (236, ⟨(.struct [(0, 9)]), 1, 16, [.string ⟨#[]⟩], [.str]⟩),
  (237, ⟨.func, 1, 8, [.nilFunc], []⟩),
  (238, ⟨.func, 1, 8, [.nilFunc], []⟩),
  (239, ⟨(.array 32 5), 32, 32, [.int .u8 0, .int .u8 0, .int .u8 0, .int .u8 0, .int .u8 0, .int .u8 0, .int .u8 0, .int .u8 0, .int .u8 0, .int .u8 0, .int .u8 0, .int .u8 0, .int .u8 0, .int .u8 0, .int .u8 0, .int .u8 0, .int .u8 0, .int .u8 0, .int .u8 0, .int .u8 0, .int .u8 0, .int .u8 0, .int .u8 0, .int .u8 0, .int .u8 0, .int .u8 0, .int .u8 0, .int .u8 0, .int .u8 0, .int .u8 0, .int .u8 0, .int .u8 0], [.int .u8, .int .u8, .int .u8, .int .u8, .int .u8, .int .u8, .int .u8, .int .u8, .int .u8, .int .u8, .int .u8, .int .u8, .int .u8, .int .u8, .int .u8, .int .u8, .int .u8, .int .u8, .int .u8, .int .u8, .int .u8, .int .u8, .int .u8, .int .u8, .int .u8, .int .u8, .int .u8, .int .u8, .int .u8, .int .u8, .int .u8, .int .u8]⟩),
  (240, ⟨(.array 64 5), 64, 64, [.int .u8 0, .int .u8 0, .int .u8 0, .int .u8 0, .int .u8 0, .int .u8 0, .int .u8 0, .int .u8 0, .int .u8 0, .int .u8 0, .int .u8 0, .int .u8 0, .int .u8 0, .int .u8 0, .int .u8 0, .int .u8 0, .int .u8 0, .int .u8 0, .int .u8 0, .int .u8 0, .int .u8 0, .int .u8 0, .int .u8 0, .int .u8 0, .int .u8 0, .int .u8 0, .int .u8 0, .int .u8 0, .int .u8 0, .int .u8 0, .int .u8 0, .int .u8 0, .int .u8 0, .int .u8 0, .int .u8 0, .int .u8 0, .int .u8 0, .int .u8 0, .int .u8 0, .int .u8 0, .int .u8 0, .int .u8 0, .int .u8 0, .int .u8 0, .int .u8 0, .int .u8 0, .int .u8 0, .int .u8 0, .int .u8 0, .int .u8 0, .int .u8 0, .int .u8 0, .int .u8 0, .int .u8 0, .int .u8 0, .int .u8 0, .int .u8 0, .int .u8 0, .int .u8 0, .int .u8 0, .int .u8 0, .int .u8 0, .int .u8 0, .int .u8 0], [.int .u8, .int .u8, .int .u8, .int .u8, .int .u8, .int .u8, .int .u8, .int .u8, .int .u8, .int .u8, .int .u8, .int .u8, .int .u8, .int .u8, .int .u8, .int .u8, .int .u8, .int .u8, .int .u8, .int .u8, .int .u8, .int .u8, .int .u8, .int .u8, .int .u8, .int .u8, .int .u8, .int .u8, .int .u8, .int .u8, .int .u8, .int .u8, .int .u8, .int .u8, .int .u8, .int .u8, .int .u8, .int .u8, .int .u8, .int .u8, .int .u8, .int .u8, .int .u8, .int .u8, .int .u8, .int .u8, .int .u8, .int .u8, .int .u8, .int .u8, .int .u8, .int .u8, .int .u8, .int .u8, .int .u8, .int .u8, .int .u8, .int .u8, .int .u8, .int .u8, .int .u8, .int .u8, .int .u8, .int .u8]⟩),
  (242, ⟨.func, 1, 8, [.nilFunc], []⟩),
  (243, ⟨(.struct [(0, 17), (1, 17), (2, 17), (3, 9)]), 4, 40, [.pointer none, .pointer none, .pointer none, .string ⟨#[]⟩], []⟩),
  (244, ⟨(.struct [(0, 17), (1, 17), (2, 17), (3, 9)]), 4, 40, [.pointer none, .pointer none, .pointer none, .string ⟨#[]⟩], []⟩),
  (248, ⟨(.int .u8), 1, 1, [.int .u8 0], [.int .u8]⟩),
  (249, ⟨(.int .u8), 1, 1, [.int .u8 0], [.int .u8]⟩),
  (250, ⟨.func, 1, 8, [.nilFunc], []⟩),
  (251, ⟨(.int .i32), 1, 4, [.int .i32 0], [.int .i32]⟩),
  (252, ⟨(.int .i32), 1, 4, [.int .i32 0], [.int .i32]⟩),
  (253, ⟨(.struct [(0, 12), (1, 12), (2, 176), (3, 248), (4, 5), (5, 5), (6, 249), (7, 250), (8, 131), (9, 251), (10, 252)]), 11, 48, [.int .u64 0, .int .u64 0, .int .u32 0, .int .u8 0, .int .u8 0, .int .u8 0, .int .u8 0, .nilFunc, .pointer none, .int .i32 0, .int .i32 0], []⟩),
  (254, ⟨(.struct [(0, 12), (1, 12), (2, 176), (3, 248), (4, 5), (5, 5), (6, 249), (7, 250), (8, 131), (9, 251), (10, 252)]), 11, 48, [.int .u64 0, .int .u64 0, .int .u32 0, .int .u8 0, .int .u8 0, .int .u8 0, .int .u8 0, .nilFunc, .pointer none, .int .i32 0, .int .i32 0], []⟩)]
theorem Tryd.tabOk : TabOk Tryd.prog Tryd.tab := by unfold TabOk; kernel_rfl
def Tryd.deB : List Int := [0, 1, 56, 2, 57, 49, 28, 3, 61, 58, 42, 50, 38, 29, 17, 4, 62, 47, 59, 36, 45, 43, 51, 22, 53, 39, 33, 30, 24, 18, 12, 5, 63, 55, 48, 27, 60, 41, 37, 16, 46, 35, 44, 21, 52, 32, 23, 11, 54, 26, 40, 15, 34, 20, 31, 10, 25, 14, 19, 9, 13, 8, 7, 6]
def Tryd.gl : List (Nat × List D) := [(9, Tryd.deB.map fun n => .v (.int .u8 n))]
structure GP where
  ng : Nat
  G : World → Prop
  gl : List (Nat × List D)
  glOk : ∀ w, G w → GlOk ng gl w
  Gst : ∀ w w' : World, w'.os = w.os → (∀ b, b < ng → w'.heap[b]? = w.heap[b]?) → G w → G w'
theorem Tryd.mixed : Tryd.prog.follows .mixedOrders = true := by kernel_rfl
noncomputable def ax (g : GP) : Ax := { E := { P := Tryd.prog, ng := g.ng, G := g.G, gl := g.gl, glOk := g.glOk, Gst := g.Gst, mixed := Tryd.mixed }, tab := Tryd.tab, ok := Tryd.tabOk }
end Go.Ax
namespace Go.Ax
def B31_24 : List Nat := [0, 0, 2, 7, 0, 0, 48, 15, 255]
def B36_8 : List Nat := [0, 1, 3, 0, 8, 24, 56, 0, 128, 440, 1016, 2047]
def B36_10 : List Nat := [0, 1, 3, 0, 8, 24, 56, 0, 128, 440, 1016, 2047]
def B36_12 : List Nat := [0, 1, 3, 0, 8, 0, 32, 120, 255]
def B37_5 : List Nat := [0, 0, 2, 6, 14, 0, 32, 110, 254, 510, 1023, 2047]
def B58_3 : List Nat := [0, 1, 0, 4, 12, 31, 63, 127]
def B58_5 : List Nat := [0, 1, 0, 4, 12, 31, 63, 127]
def B58_18 : List Nat := [0, 1, 0, 4, 12, 31, 63, 127]
def B61_9 : List Nat := [0, 1, 3, 7, 15, 31, 63, 127, 255, 511, 1023, 2047, 4095, 8191, 16383, 32767, 65535, 131071, 262143, 32767, 1048575, 2097151, 4194303]
def B62_4 : List Nat := [0, 1, 3, 7, 15, 31, 15, 127, 255, 511, 1023, 2047, 4095, 8191, 8191, 24575, 65535, 131071, 262143, 8191, 532479, 2097151, 4194303, 8388607]
def B88_6 : List Nat := [0, 1, 0, 4, 12, 31, 63, 127]
def B88_9 : List Nat := [0, 1, 0, 0, 8, 28, 60, 127, 255, 511]
def B88_13 : List Nat := [0, 0, 2, 7, 0, 0, 32, 127, 0, 0, 512, 2047, 1647, 8191, 16383, 32767, 65535, 131071]
def B127_5 : List Nat := [0, 0, 2, 6, 14, 30, 62, 62, 254, 510, 1022, 62, 62, 4158, 14398, 30782, 63550, 131070, 262142, 524287, 1048575, 2097151]
def B181_4 : List Nat := [0, 0, 3, 7, 15, 15, 15, 111, 239, 15, 15, 1039, 3599, 7695, 16383, 32767, 65535]
def B181_6 : List Nat := [0, 0, 0, 0, 8, 0, 0, 64, 224, 480, 0, 0, 3072, 7168, 16355, 32739, 65535, 131071]
def B182_5 : List Nat := [0, 0, 0, 6, 14, 0, 0, 96, 224, 511, 1023]
def B182_11 : List Nat := [0, 0, 0, 0, 8, 0, 0, 64, 224, 480, 0, 0, 3072, 7168, 16355, 32739, 65535, 131071]
def B182_17 : List Nat := [0, 0, 0, 6, 14, 0, 0, 96, 224, 511, 1023, 2047]
def B182_23 : List Nat := [0, 0, 0, 0, 8, 0, 0, 64, 224, 480, 0, 0, 3072, 7168, 16355, 32739, 65535, 131071]
def B182_35 : List Nat := [0, 0, 0, 0, 12, 30, 62, 0, 0, 384, 896, 2047, 4095, 8191]
def B185_3 : List Nat := [0, 0, 0, 6, 0, 0, 0, 96, 0, 0, 0, 1536, 3840, 7936, 0, 0, 0, 98304, 245760, 507904, 1048335, 2096911, 4194303, 8388607]
end Go.Ax
namespace Go.Ax
theorem CallP.det {E : Env} {k : Kn} {f : FuncId} {args : List AV} {s : St} {K : AV → HL → Prop} {KP : List PanicEntry → HL → Prop} {res : AV} (h : Ctr E f args [] fun o => o = .ret res []) (hk : K res s.h) : CallP E k f args s K KP :=
  ⟨[], _, h, fun r o h => by simp [lkH] at h, fun res' ho e => by injection e with e1 e2; subst e1; subst e2; exact ⟨fun r o h => by simp [lkH] at h, hk⟩, fun ch ho e => by simp at e⟩
theorem CallD.det {E : Env} {f : FuncId} {args : List AV} {s : St} {K : AV → HL → HL → Prop} {PD : List PanicEntry → Prop} {res : AV} (h : Ctr E f args [] fun o => o = .ret res []) (hk : K res [] []) : CallD E f args s K PD :=
  ⟨[], res, [], h.mono fun _ h => .inl h, fun r o h => by simp [lkH] at h, hk⟩
theorem CallP.arg {E : Env} {k : Kn} {f : FuncId} {args args' : List AV} {s : St} {K : AV → HL → Prop} {KP : List PanicEntry → HL → Prop} (e : args = args') (h : CallP E k f args' s K KP) : CallP E k f args s K KP := e ▸ h
abbrev AV.i64 (n : Int) : AV := .d (.v (.int .i64 n))
abbrev AV.bool (b : Bool) : AV := .d (.v (.bool b))
abbrev AV.str (b : ByteArray) : AV := .d (.v (.string b))
abbrev D.i64 (n : Int) : D := .v (.int .i64 n)
abbrev D.u16 (n : Int) : D := .v (.int .u16 n)
theorem msl_eq {r n n' : Nat} (h : n = n') : AV.msl r n 0 n = AV.msl r n' 0 n' := by rw [h]
theorem AV.int_eq {k : IntKind} {a b : Int} (h : a = b) : (AV.d (.v (.int k a))) = .d (.v (.int k b)) := by rw [h]
theorem AV.bool_eq {a b : Bool} (h : a = b) : (AV.d (.v (.bool a))) = .d (.v (.bool b)) := by rw [h]
theorem i64_wrap {n : Int} (h0 : -9223372036854775808 ≤ n) (h1 : n < 9223372036854775808) : IntKind.i64.wrap n = n := by rw [IntKind.wrap_i64]; omega
theorem i64_succ {n : Nat} (h1 : n < 9223372036854775807) : IntKind.i64.wrap ((n : Int) + 1) = ((n + 1 : Nat) : Int) := by rw [IntKind.wrap_i64]; omega
theorem u64_nat {n : Nat} (h : n < 2 ^ 64) : IntKind.u64.wrap (n : Int) = n := by rw [IntKind.wrap_u64]; omega
end Go.Ax
namespace Go.Ax
variable {X : Ax} {k : Kn}
def roundsP (E : Env) (tab : List (Nat × TI)) (k : Kn) (c : Code) (Q : APost) : Nat → St → Prop
  | 0, _ => False
  | n + 1, s => wpc E tab k c (thenP (fun s => roundsP E tab k c Q n s) Q) s
theorem rounds_ok {body : Code} {Q : APost} : ∀ (n : Nat) {s : St}, roundsP X.E X.tab k body Q n s → ∀ (c : Cx), c.Ok X.E → c.nt = k.nt → c.anc = k.anc → ∀ Im ρ a w, Sim c Im ρ s.F s.H a w → Code.roundsIn c.fence 0 X.E.P body (Lift c Q) n a w
  | 0, s, h => h.elim
  | n + 1, s, h => fun c ok hn ha Im ρ a w S => by
    refine wpIn_mono (wpc_ok h c ok hn ha Im ρ a w S) fun e a' w' ⟨h1, Im', ρ', s', S', hQ⟩ => ?_
    cases e with
    | normal => exact rounds_ok n hQ c ok hn ha Im' ρ' a' w' S'
    | outgrown => exact absurd rfl h1
    | exit id => exact ⟨h1, Im', ρ', s', S', hQ⟩
    | goto l => exact ⟨h1, Im', ρ', s', S', hQ⟩
    | ret => exact ⟨h1, Im', ρ', s', S', hQ⟩
    | panic ch => exact ⟨h1, Im', ρ', s', S', hQ⟩
theorem LoopP.rounds {body : Code} {Q : APost} {s : St} (n : Nat) (h : roundsP X.E X.tab k body Q n s) : LoopP X.E k body Q s :=
  ⟨fun c ok hn ha Im ρ a w S => wpIn_loop_rounds n (rounds_ok n h c ok hn ha Im ρ a w S)⟩
theorem LoopP.inv {σ : Type} {body : Code} {Q : APost} {s : St} (st : σ → St) (I : σ → Prop) (μ : σ → Nat) (s0 : σ) (hI : I s0) (h0 : (st s0).Le s)
    (round : ∀ x, I x → wpc X.E X.tab k body (thenP (fun s' => ∃ x', I x' ∧ μ x' < μ x ∧ (st x').Le s') Q) (st x)) : LoopP X.E k body Q s :=
  ⟨AWp.loop (σ := { x : σ // I x }) (fun x => st x.1) (fun x => μ x.1) ⟨s0, hI⟩ h0 fun ⟨x, hx⟩ => AWp.mono (wpc_ok (round x hx)) fun e s' h => by
    cases e with
    | normal => obtain ⟨x', h1, h2, h3⟩ := h; exact ⟨⟨x', h1⟩, h2, h3⟩
    | _ => exact h⟩
theorem Sim.seen {c : Cx} {Im : Nat → Prop} {ρ : Nat → Option Loc} {F : Nat → AV} {H : Nat → Option AObj} {a : Act} {w : World} (S : Sim c Im ρ F H a w) {t : Nat} {x : AV} (hx : RA (hp w) Im ρ (a.tmps.getD t undef) x) : Sim c Im ρ (upd F t x) H a w where
  defs := S.defs
  nt := S.nt
  fr := fun u hu => by
    by_cases h : u = t
    · subst h; simpa using hx
    · rw [upd_ne _ _ h]; exact S.fr u hu
  obj := S.obj
  dis := S.dis
  imn := S.imn
  im0 := S.im0
  os := S.os
  tape := S.tape
  output := S.output
  size := S.size
  kept := S.kept
  anc := S.anc
theorem AWp.own {E : Env} {code : Code} {Q : APost} {s : St} (t r sz : Nat) (el : TypeId) (ht : Nat.blt t k.nt = true) (hl : lk t s.f = .d (.v (.slice none 0 0))) (hu : unmB k.anc r s = true)
    (h : AWp E k code Q { f := (t, .msl r 0 0 0) :: s.f, h := (r, some (.buf sz el [])) :: s.h }) : AWp E k code Q s := fun c ok hn ha Im ρ a w S => by
  have hv : a.tmps.getD t undef = .slice none 0 0 := by
    have := S.fr t (by rw [hn]; simpa using ht)
    simp only [St.F] at this
    rw [hl] at this
    exact this.v
  have S1 := S.new (w' := w) (r := r) (l := { blk := none, isBuf := true, sz := sz }) (o := .buf sz el []) (Grows.refl w _) (unmB_spec (by rw [ha]; exact hu)) (by simp [Loc.fp]) ⟨rfl, rfl, rfl, rfl, by simp, .inl ⟨rfl, rfl, rfl⟩⟩
  have S2 := S1.seen (t := t) (x := .msl r 0 0 0) (by
    rw [hv]
    refine .msl _ r 0 0 0 rfl fun l hl => ?_
    rw [upd_same] at hl; injection hl with hl; subst hl
    exact ⟨by simp, fun _ => rfl⟩)
  refine h c ok hn ha Im (upd ρ r (some { blk := none, isBuf := true, sz := sz })) a w ?_
  have e1 : (St.F { f := (t, .msl r 0 0 0) :: s.f, h := (r, some (.buf sz el [])) :: s.h }) = upd s.F t (.msl r 0 0 0) := lk_cons t _ s.f
  have e2 : (St.H { f := (t, .msl r 0 0 0) :: s.f, h := (r, some (.buf sz el [])) :: s.h }) = upd s.H r (some (.buf sz el [])) := lkH_cons r _ s.h
  rw [e1, e2]
  exact S2
theorem LoopP.own {E : Env} {code : Code} {Q : APost} {s : St} (t r sz : Nat) (el : TypeId) (ht : Nat.blt t k.nt = true) (hl : lk t s.f = .d (.v (.slice none 0 0))) (hu : unmB k.anc r s = true)
    (h : LoopP E k code Q { f := (t, .msl r 0 0 0) :: s.f, h := (r, some (.buf sz el [])) :: s.h }) : LoopP E k code Q s := ⟨.own t r sz el ht hl hu h.ok⟩
def frz (r sz : Nat) (els : List (List D)) : AV → AV
  | .msl q n off len => match Nat.beq q r, Nat.beq n els.length, Nat.ble (off + len) els.length with
    | true, true, true => .d (.sl false sz ((els.drop off).take len))
    | _, _, _ => .msl q n off len
  | x => x
theorem Ctr.freeze {E : Env} {f : FuncId} {args : List AV} {res : AV} (r sz : Nat) (el : TypeId) (els : List (List D)) (h : Ctr E f (args.map (frz r sz els)) [] fun o => o = .ret res []) : Ctr E f args [(r, some (.buf sz el els))] fun o => o = .ret res [] := by
  refine ⟨h.1, fun w Im ρ vs hG hIm hgl hsz hra hrel => ?_⟩
  obtain ⟨l, hl, hro, hown⟩ := hrel.obj r (.buf sz el els) (by simp [lkH])
  have hra1 : ∀ (i : Nat) (v : Value) (x : AV), vs[i]? = some v → (args.map (frz r sz els))[i]? = some x → RA (hp w) (fun b => Im b ∨ b ∈ l.fp) ρ v x := fun i v x h1 h2 => by
    simp only [List.getElem?_map, Option.map_eq_some_iff] at h2
    obtain ⟨y, hy, rfl⟩ := h2
    have h3 := hra i v y h1 hy
    have h4 : RA (hp w) (fun b => Im b ∨ b ∈ l.fp) ρ v y := h3.mono (fun _ h => .inl h) (fun _ _ => rfl) fun q _ l' hl' => ⟨l', hl', .inl rfl⟩
    unfold frz
    split
    · split
      · rename_i q n off len e1 e2 e3
        have := Nat.eq_of_beq_eq_true e1; subst this
        have := Nat.eq_of_beq_eq_true e2; subst this
        cases h3 with
        | msl _ _ _ _ _ _ hp2 =>
          have hv := (hp2 l hl).2 hro.2.2.2.1.symm
          rw [hv]
          exact .d _ _ (RD.ofBuf hro (fun _ h => .inl h) (fun b hb => .inr hb) (Nat.le_of_ble_eq_true e3))
      · exact h4
    · exact h4
  have := h.2 w (fun b => Im b ∨ b ∈ l.fp) (fun _ => none) vs hG (fun b hb => hb.elim (hIm b) fun hb => (hown b hb).1) (fun b hb => .inl (hgl b hb)) (by simpa using hsz) (fun i v x h1 h2 => (hra1 i v x h1 h2).mono (fun _ h => h) (fun _ _ => rfl) fun q hq l' hl' => by simp at hl') ⟨fun r o h => by simp [lkH] at h, fun r r' o o' l l' h => by simp [lkH] at h⟩
  have hT : ∀ b, TIn (fun _ => none) [] b → False := fun b ⟨r, o, l, h, _⟩ => by simp [lkH] at h
  have hTin : ∀ b ∈ l.fp, TIn ρ [(r, some (.buf sz el els))] b := fun b hb => ⟨r, .buf sz el els, l, by simp [lkH], hl, hb⟩
  refine this.mono fun e w' he => ?_
  cases e with
  | returned v =>
    obtain ⟨res', ho, Im', ρ', h1, h2, h3, A⟩ := he
    injection h1 with e1 e2; subst e1; subst e2
    refine ⟨res', [], Im', fun _ => none, rfl, h2.mono (fun _ h => h) (fun _ _ => rfl) (fun q hq l' hl' => by simp at hl'), h3, ?_⟩
    refine ⟨⟨A.grows.size, A.grows.os, A.grows.tape, A.grows.output, fun b hb hn => A.grows.block b hb fun h => hT b h⟩, fun b hb => A.im b (.inl hb), fun b hb => ?_, ⟨fun q o hq => by simp [lkH] at hq, fun q q' o o' l1 l2 hq => by simp [lkH] at hq⟩, fun q o hq l' hl' => by simp at hl', A.cl⟩
    obtain ⟨g1, g2⟩ := A.imn b hb
    refine ⟨g1, ?_⟩
    rcases g2 with (g2 | g2) | g2 | g2
    · exact .inl g2
    · exact .inr (.inr (hTin b g2))
    · exact .inr (.inl g2)
    · exact (hT b g2).elim
  | panicked ch =>
    obtain ⟨ho, Im', ρ', h1, h4⟩ := he
    exact absurd h1 (by simp)
  | outgrown => exact he
theorem CallP.give {E : Env} {k : Kn} {f : FuncId} {args : List AV} {s : St} {K : AV → HL → Prop} {KP : List PanicEntry → HL → Prop} {res : AV} (r sz : Nat) (el : TypeId) (els : List (List D)) (hr : lkH r s.h = some (.buf sz el els)) (h : Ctr E f (args.map (frz r sz els)) [] fun o => o = .ret res [])
    (hk : K res ((r, none) :: s.h)) : CallP E k f args s K KP :=
  ⟨[(r, some (.buf sz el els))], _, Ctr.freeze r sz el els h, fun q o hq => by
    simp only [lkH] at hq
    split at hq
    · rename_i hb
      have := Nat.eq_of_beq_eq_true hb; subst this
      injection hq with hq; subst hq; exact hr
    · simp at hq, fun res' ho e => by injection e with e1 e2; subst e1; subst e2; exact ⟨fun r o h => by simp [lkH] at h, hk⟩, fun ch ho e => by simp at e⟩
theorem CallP.upd {E : Env} {k : Kn} {f : FuncId} {args : List AV} {s : St} {K : AV → HL → Prop} {KP : List PanicEntry → HL → Prop} {res : AV} {r : Nat} {ob ob' : AObj} (hr : lkH r s.h = some ob) (h : Ctr E f args [(r, some ob)] fun o => o = .ret res [(r, some ob')]) (hk : K res ((r, some ob') :: (r, none) :: s.h)) : CallP E k f args s K KP :=
  have one : ∀ {q o x}, lkH q [(r, some x)] = some o → q = r ∧ o = x := fun {q o x} hq => by
    simp only [lkH] at hq
    split at hq
    · rename_i hb; injection hq with hq; exact ⟨(Nat.eq_of_beq_eq_true hb).symm, hq.symm⟩
    · simp at hq
  ⟨[(r, some ob)], _, h, fun q o hq => by obtain ⟨rfl, rfl⟩ := one hq; exact hr, fun res' ho e => by
    injection e with e1 e2; subst e1; subst e2
    exact ⟨fun q o hq => .inl (by obtain ⟨rfl, rfl⟩ := one hq; exact ⟨ob, by simp [lkH]⟩), hk⟩, fun ch ho e => by simp at e⟩
theorem CallD.upd {E : Env} {f : FuncId} {args : List AV} {s : St} {K : AV → HL → HL → Prop} {PD : List PanicEntry → Prop} {res : AV} {r : Nat} {ob ob' : AObj} (hr : lkH r s.h = some ob) (h : Ctr E f args [(r, some ob)] fun o => o = .ret res [(r, some ob')]) (hk : K res [(r, some ob)] [(r, some ob')]) : CallD E f args s K PD :=
  ⟨[(r, some ob)], res, [(r, some ob')], h.mono fun _ h => .inl h, fun q o hq => by
    simp only [lkH] at hq
    split at hq
    · rename_i hb; injection hq with hq; subst hq; rw [← Nat.eq_of_beq_eq_true hb]; exact hr
    · simp at hq, hk⟩
theorem AWp.ownCell {E : Env} {code : Code} {Q : APost} {s : St} (q i r sz : Nat) (el : TypeId) (cs : List AV) (hq : lkH q s.h = some (.var cs)) (hi : cs[i]? = some (.d (.v (.slice none 0 0)))) (hu : unmB k.anc r s = true)
    (h : AWp E k code Q { f := s.f, h := (r, some (.buf sz el [])) :: (q, some (.var (cs.set i (.msl r 0 0 0)))) :: s.h }) : AWp E k code Q s := fun c ok hn ha Im ρ a w S => by
  have hun := unmB_spec (c := c) (by rw [ha]; exact hu)
  have hne : q ≠ r := fun e => by
    subst e
    have h1 : lkH q s.h = none := hun.none
    rw [hq] at h1; simp at h1
  have S1 := S.new (w' := w) (r := r) (l := { blk := none, isBuf := true, sz := sz }) (o := .buf sz el []) (Grows.refl w _) hun (by simp [Loc.fp]) ⟨rfl, rfl, rfl, rfl, by simp, .inl ⟨rfl, rfl, rfl⟩⟩
  obtain ⟨l, hl, hro, _⟩ := S1.obj q (.var cs) (by rw [upd_ne _ _ hne]; exact hq)
  have S2 := S1.chg (w' := w) (r := q) (l := l) (l' := l) (o' := .var (cs.set i (.msl r 0 0 0))) (by rw [upd_ne _ _ hne]; exact hq) hl (Grows.refl w _) (.inl rfl) (fun b hb => .inl hb) (by
    have hρ : upd (upd ρ r (some { blk := none, isBuf := true, sz := sz })) q (some l) = upd ρ r (some { blk := none, isBuf := true, sz := sz }) := by
      funext x
      by_cases hx : x = q
      · subst hx; rw [upd_same, hl]
      · rw [upd_ne _ _ hx]
    rw [hρ]
    refine ⟨hro.1, hro.2.1, ?_⟩
    obtain ⟨b, ms, t, h1, h2, h3, h4⟩ := hro.2.2
    refine ⟨b, ms, t, h1, h2, by simpa using h3, fun j v hv x hx => ?_⟩
    by_cases hj : i = j
    · subst hj
      have hil := (List.getElem?_eq_some_iff.1 hi).1
      rw [List.getElem?_set_self hil] at hx
      injection hx with hx; subst hx
      obtain ⟨h5, h6⟩ := h4 i v hv _ hi
      have := h5.v
      subst this
      refine ⟨.msl _ r 0 0 0 rfl fun l2 hl2 => ?_, rfl⟩
      rw [upd_same] at hl2; injection hl2 with hl2; subst hl2
      exact ⟨by simp, fun _ => rfl⟩
    · rw [List.getElem?_set_ne hj] at hx
      exact h4 j v hv x hx)
  refine h c ok hn ha Im (upd (upd ρ r (some { blk := none, isBuf := true, sz := sz })) q (some l)) a w ?_
  have e2 : (St.H { f := s.f, h := (r, some (.buf sz el [])) :: (q, some (.var (cs.set i (.msl r 0 0 0)))) :: s.h }) = upd (upd s.H r (some (.buf sz el []))) q (some (.var (cs.set i (.msl r 0 0 0)))) := by
    funext x
    by_cases hx : x = r
    · subst hx
      rw [upd_ne _ _ (Ne.symm hne), upd_same]
      simp [St.H, lkH]
    · rw [show St.H { f := s.f, h := (r, some (.buf sz el [])) :: (q, some (.var (cs.set i (.msl r 0 0 0)))) :: s.h } x = upd (fun t => lkH t ((q, some (.var (cs.set i (.msl r 0 0 0)))) :: s.h)) r (some (.buf sz el [])) x from congrFun (lkH_cons r _ _) x, upd_ne _ _ hx]
      show lkH x ((q, some (.var (cs.set i (.msl r 0 0 0)))) :: s.h) = _
      rw [congrFun (lkH_cons q (some (.var (cs.set i (.msl r 0 0 0)))) s.h) x]
      by_cases hx2 : x = q
      · subst hx2; rw [upd_same, upd_same]
      · rw [upd_ne _ _ hx2, upd_ne _ _ hx2, upd_ne _ _ hx]
  rw [e2]
  exact S2
theorem LoopP.ownCell {E : Env} {code : Code} {Q : APost} {s : St} (q i r sz : Nat) (el : TypeId) (cs : List AV) (hq : lkH q s.h = some (.var cs)) (hi : cs[i]? = some (.d (.v (.slice none 0 0)))) (hu : unmB k.anc r s = true)
    (h : LoopP E k code Q { f := s.f, h := (r, some (.buf sz el [])) :: (q, some (.var (cs.set i (.msl r 0 0 0)))) :: s.h }) : LoopP E k code Q s := ⟨.ownCell q i r sz el cs hq hi hu h.ok⟩
def Sub (E : Env) (k : Kn) (s' s : St) : Prop := ∀ (c : Cx), c.Ok E → c.nt = k.nt → c.anc = k.anc → ∀ (Im : Nat → Prop) (ρ : Nat → Option Loc) (a : Act) (w : World), Sim c Im ρ s.F s.H a w → ∃ Im' ρ', Sim c Im' ρ' s'.F s'.H a w
theorem Sub.trans {E : Env} {s1 s2 s3 : St} (h : Sub E k s1 s2) (g : Sub E k s2 s3) : Sub E k s1 s3 := fun c ok e1 e2 Im ρ a w S => by
  obtain ⟨Im1, ρ1, S1⟩ := g c ok e1 e2 Im ρ a w S
  exact h c ok e1 e2 Im1 ρ1 a w S1
theorem St.Le.sub {E : Env} {s' s : St} (h : s'.Le s) : Sub E k s' s := fun _ _ _ _ Im ρ _ _ S => ⟨Im, ρ, S.weak (fun t => LeF.at h.1 t) (fun r o => LeH.at h.2 r o)⟩
inductive DL : D → D → Prop
  | refl (x : D) : DL x x
  | nil (t : Bool) (sz : Nat) : DL (.v (.slice none 0 0)) (.sl t sz [])
  | sl (t : Bool) (sz : Nat) (els els' : List (List D)) (h1 : els.length = els'.length) (h2 : ∀ (i : Nat) (el el' : List D), els[i]? = some el → els'[i]? = some el' → el.length = el'.length)
      (h3 : ∀ (i j : Nat) (el el' : List D) (x y : D), els[i]? = some el → els'[i]? = some el' → el[j]? = some x → el'[j]? = some y → DL x y) : DL (.sl t sz els) (.sl false sz els')
theorem RD.dl {h : Nat → Option Obj} {Im : Nat → Prop} {x y : D} (hxy : DL x y) : ∀ {v : Value}, RD h Im v x → RD h Im v y := by
  induction hxy with
  | refl x => exact fun H => H
  | nil t sz => intro v H; cases H with | v _ _ => exact .nil t sz none 0 fun _ => rfl
  | sl t sz els els' h1 h2 h3 ih =>
    intro v H
    cases H with
    | nil _ _ a cap _ =>
      have := List.eq_nil_of_length_eq_zero (l := els') (by rw [← h1]; rfl)
      subst this
      exact .nil false sz a cap (by simp)
    | sl _ _ _ b o cap f hs hb hle _ hc hr =>
      rw [h1]
      have key : ∀ (i j : Nat) (el' : List D) (y : D), els'[i]? = some el' → el'[j]? = some y → ∃ el x, els[i]? = some el ∧ el[j]? = some x := fun i j el' y e1 e2 => by
        have hi : i < els.length := by rw [h1]; exact (List.getElem?_eq_some_iff.1 e1).1
        have hl := h2 i _ _ (List.getElem?_eq_getElem hi) e1
        have hj : j < els[i].length := by rw [hl]; exact (List.getElem?_eq_some_iff.1 e2).1
        exact ⟨_, _, List.getElem?_eq_getElem hi, List.getElem?_eq_getElem hj⟩
      refine .sl false sz els' b o cap f (fun el' hel' => ?_) hb (by omega) (by simp) (fun i j el' y e1 e2 => ?_) (fun i j el' y e1 e2 => ?_)
      · obtain ⟨i, hi, rfl⟩ := List.mem_iff_getElem.1 hel'
        rw [← h2 i els[i] els'[i] (List.getElem?_eq_getElem (by omega)) (List.getElem?_eq_getElem hi)]
        exact hs _ (List.getElem_mem (by omega))
      · obtain ⟨el, x, g1, g2⟩ := key i j el' y e1 e2
        exact hc i j el x g1 g2
      · obtain ⟨el, x, g1, g2⟩ := key i j el' y e1 e2
        exact ih i j el el' x y g1 e1 g2 e2 (hr i j el x g1 g2)
def RowL (a b : List D) : Prop := a.length = b.length ∧ ∀ (j : Nat) (x y : D), a[j]? = some x → b[j]? = some y → DL x y
def RowsL (a b : List (List D)) : Prop := a.length = b.length ∧ ∀ (i : Nat) (x y : List D), a[i]? = some x → b[i]? = some y → RowL x y
theorem RowL.refl (a : List D) : RowL a a := ⟨rfl, fun j x y h1 h2 => by rw [h1] at h2; injection h2 with h2; subst h2; exact .refl x⟩
theorem RowL.cons {x y : D} {a b : List D} (h : DL x y) (k : RowL a b) : RowL (x :: a) (y :: b) := ⟨by simp [k.1], fun j u v h1 h2 => by
  cases j with
  | zero => simp at h1 h2; subst h1; subst h2; exact h
  | succ j => exact k.2 j u v (by simpa using h1) (by simpa using h2)⟩
theorem RowsL.dl {t : Bool} {sz : Nat} {a b : List (List D)} (h : RowsL a b) : DL (.sl t sz a) (.sl false sz b) :=
  .sl t sz a b h.1 (fun i el el' h1 h2 => (h.2 i el el' h1 h2).1) fun i j el el' x y h1 h2 => (h.2 i el el' h1 h2).2 j x y
theorem RowsL.app {a b c d : List (List D)} (h : RowsL a b) (k : RowsL c d) : RowsL (a ++ c) (b ++ d) := ⟨by simp [h.1, k.1], fun i x y h1 h2 => by
  by_cases hi : i < a.length
  · rw [List.getElem?_append_left hi] at h1; rw [List.getElem?_append_left (by rw [← h.1]; exact hi)] at h2
    exact h.2 i x y h1 h2
  · rw [List.getElem?_append_right (by omega)] at h1; rw [List.getElem?_append_right (by rw [← h.1]; omega)] at h2
    rw [← h.1] at h2
    exact k.2 _ x y h1 h2⟩
theorem RowsL.one {x y : List D} (h : RowL x y) : RowsL [x] [y] := ⟨rfl, fun i u v h1 h2 => by
  cases i with
  | zero => simp at h1 h2; subst h1; subst h2; exact h
  | succ i => simp at h1⟩
theorem RA.dagg_dl {h : Nat → Option Obj} {Im : Nat → Prop} {ρ : Nat → Option Loc} {v : Value} {xs ys : List D} (H : RA h Im ρ v (.dagg xs)) (hxy : RowL xs ys) : RA h Im ρ v (.dagg ys) := by
  cases H with
  | dagg cs _ hl hr =>
    refine .dagg cs _ (hl.trans hxy.1) fun i v y e1 e2 => ?_
    have hi : i < xs.length := by rw [hxy.1]; exact (List.getElem?_eq_some_iff.1 e2).1
    exact (hr i v _ e1 (List.getElem?_eq_getElem hi)).dl (hxy.2 i _ y (List.getElem?_eq_getElem hi) e2)
theorem Ctr.le {E : Env} {f : FuncId} {args args' : List AV} {hin : HL} {post : AOut → Prop} (h : Ctr E f args hin post) (hl : args'.length = args.length)
    (hle : ∀ (w : World) (Im : Nat → Prop) (ρ : Nat → Option Loc) (i : Nat) (v : Value) (x y : AV), args'[i]? = some x → args[i]? = some y → RA (hp w) Im ρ v x → RA (hp w) Im ρ v y) : Ctr E f args' hin post :=
  ⟨h.1, fun w Im ρ vs g1 g2 g3 g4 g5 g6 => h.2 w Im ρ vs g1 g2 g3 (g4.trans hl) (fun i v y h1 h2 => by
    have hi : i < args'.length := by rw [hl]; exact (List.getElem?_eq_some_iff.1 h2).1
    exact hle w Im ρ i v _ y (List.getElem?_eq_getElem hi) h2 (g5 i v _ h1 (List.getElem?_eq_getElem hi))) g6⟩
theorem bsz (a : Array UInt8) : (ByteArray.mk a).size = a.size := rfl
theorem RA.dagg_of {h : Nat → Option Obj} {Im : Nat → Prop} {ρ : Nat → Option Loc} {v : Value} {l : List D} (H : RA h Im ρ v (.agg (l.map .d))) : RA h Im ρ v (.dagg l) := by
  cases H with
  | agg cs _ hl hr =>
    refine .dagg cs l (by simpa using hl) fun i v x h1 h2 => ?_
    have := hr i v (.d x) h1 (by simp [h2])
    cases this; assumption
def DLe (x y : D) : Prop := x = y ∨ (x = .v (.slice none 0 0) ∧ ∃ t sz, y = .sl t sz []) ∨ (∃ t sz els, x = .sl t sz els ∧ y = .sl false sz els)
theorem RD.le {h : Nat → Option Obj} {Im : Nat → Prop} {v : Value} {x y : D} (H : RD h Im v x) (hxy : DLe x y) : RD h Im v y := by
  rcases hxy with rfl | ⟨rfl, t, sz, rfl⟩ | ⟨t, sz, els, rfl, rfl⟩
  · exact H
  · cases H with
    | v _ _ => exact .nil t sz none 0 fun _ => rfl
  · exact H.loose
def DLes : List D → List D → Prop
  | [], [] => True
  | x :: xs, y :: ys => DLe x y ∧ DLes xs ys
  | _, _ => False
theorem DLes.at : ∀ {xs ys : List D}, DLes xs ys → xs.length = ys.length ∧ ∀ (i : Nat) (x y : D), xs[i]? = some x → ys[i]? = some y → DLe x y
  | [], [], _ => ⟨rfl, by simp⟩
  | x :: xs, y :: ys, h => by
    obtain ⟨h1, h2⟩ := DLes.at h.2
    refine ⟨by simp [h1], fun i a b ha hb => ?_⟩
    cases i with
    | zero => simp at ha hb; subst ha; subst hb; exact h.1
    | succ i => exact h2 i a b (by simpa using ha) (by simpa using hb)
theorem RA.dagg_le {h : Nat → Option Obj} {Im : Nat → Prop} {ρ : Nat → Option Loc} {v : Value} {xs ys : List D} (H : RA h Im ρ v (.dagg xs)) (hxy : DLes xs ys) : RA h Im ρ v (.dagg ys) := by
  cases H with
  | dagg cs _ hl hr =>
    obtain ⟨h1, h2⟩ := hxy.at
    refine .dagg cs _ (hl.trans h1) fun i v y e1 e2 => ?_
    have hi : i < xs.length := by rw [h1]; exact (List.getElem?_eq_some_iff.1 e2).1
    exact (hr i v _ e1 (List.getElem?_eq_getElem hi)).le (h2 i _ y (List.getElem?_eq_getElem hi) e2)
theorem Ctr.le1 {E : Env} {f : FuncId} {xs ys : List D} {hin : HL} {post : AOut → Prop} (h : Ctr E f [.dagg ys] hin post) (hxy : DLes xs ys) : Ctr E f [.dagg xs] hin post :=
  h.le rfl fun w Im ρ i v x y h1 h2 H => by
    match i with
    | 0 => simp at h1 h2; subst h1; subst h2; exact H.dagg_le hxy
    | n + 1 => simp at h1
theorem Ctr.leR {E : Env} {f : FuncId} {xs ys : List D} {hin : HL} {post : AOut → Prop} (h : Ctr E f [.dagg ys] hin post) (hxy : RowL xs ys) : Ctr E f [.dagg xs] hin post :=
  h.le rfl fun w Im ρ i v x y h1 h2 H => by
    match i with
    | 0 => simp at h1 h2; subst h1; subst h2; exact H.dagg_dl hxy
    | n + 1 => simp at h1
theorem AWp.asVar {E : Env} {code : Code} {Q : APost} {s : St} (q n : Nat) (cs : List D) (hq : lkH q s.h = some (.dvar n cs)) (h : AWp E k code Q { f := s.f, h := (q, some (.var (cs.map .d))) :: s.h }) : AWp E k code Q s := fun c ok hn ha Im ρ a w S => by
  obtain ⟨l, hl, hro, _⟩ := S.obj q (.dvar n cs) hq
  have hρ : upd ρ q (some l) = ρ := by
    funext x
    by_cases hx : x = q
    · subst hx; rw [upd_same, hl]
    · rw [upd_ne _ _ hx]
  have S2 := S.chg (w' := w) (r := q) (l := l) (l' := l) (o' := .var (cs.map .d)) hq hl (Grows.refl w _) (.inl rfl) (fun b hb => .inl hb) (by
    rw [hρ]
    obtain ⟨h1, h2, h3, b, ms, t, h4, h5, h6, h7⟩ := hro
    refine ⟨h1, h2, b, ms, t, h4, h5, by simpa [h3] using h6, fun j v hv x hx => ?_⟩
    simp only [List.getElem?_map, Option.map_eq_some_iff] at hx
    obtain ⟨y, hy, rfl⟩ := hx
    exact ⟨.d _ _ (h7 j v hv y hy), (h7 j v hv y hy).one⟩)
  rw [hρ] at S2
  refine h c ok hn ha Im ρ a w ?_
  have e2 : (St.H { f := s.f, h := (q, some (.var (cs.map .d))) :: s.h }) = upd s.H q (some (.var (cs.map .d))) := lkH_cons q _ s.h
  rw [e2]
  exact S2
theorem LoopP.asVar {E : Env} {code : Code} {Q : APost} {s : St} (q n : Nat) (cs : List D) (hq : lkH q s.h = some (.dvar n cs)) (h : LoopP E k code Q { f := s.f, h := (q, some (.var (cs.map .d))) :: s.h }) : LoopP E k code Q s := ⟨.asVar q n cs hq h.ok⟩
end Go.Ax
namespace Go.Ax
variable {X : Ax} {k : Kn}
def CtrD (E : Env) (g : FuncId) (args : List AV) (hin : HL) (u u' : FrameMode) (post : AOut → Prop) : Prop :=
  Bodied E.P g ∧ ∀ (w : World) (Im : Nat → Prop) (ρ : Nat → Option Loc) (vs : Array Value), E.G w → (∀ b, Im b → b < w.heap.size) → (∀ b, b < E.ng → Im b) → vs.size = args.length →
    (∀ (i : Nat) (v : Value) (x : AV), vs[i]? = some v → args[i]? = some x → RA (hp w) Im ρ v x) → HRel w Im ρ hin (fun _ => True) →
    CallsD E.P g vs u w fun e m w' => m = u' ∧ Ends post w Im ρ hin e w'
def asked (u : FrameMode) : Option (Value × FrameMode) := match u with
  | .panicking ({ v, recovered := false, goexit := false } :: older) => some (v, .panicking ({ v, recovered := true } :: older))
  | _ => none
theorem recoverD_asked {u : FrameMode} (c0 : Frame) (cs : List Frame) (h : c0.mode = u) : recoverD (c0 :: cs) = match asked u with
    | some (v, u') => some (v, { c0 with mode := u' } :: cs)
    | none => none := by
  subst h
  simp only [recoverD, asked]
  generalize c0.mode = m
  split <;> simp_all
theorem CtrD.body {g : FuncId} {fn : Func} {args : List AV} {hin : HL} {post : AOut → Prop} {u u' : FrameMode} (v : Value) (x : AV) (idr : Nat) (o0 o1 : Oper) (rest : Code) (nt : Nat) (anc : List Nat) (rs : List ResultVar) (d0 d1 : Nat)
    (hf : X.E.P.funcs[g]? = some fn) (hb : fn.body = some (.seq (.region idr #[o0, o1] false) rest)) (hnt : fn.ntmps = nt) (hanc : hin.map (·.1) = anc) (hrs : fn.results.toList = rs) (hname : (fn.name == "runtime.NumGoroutine") = false) (hargs : Nat.ble args.length nt = true) (hres : rs.all (resIn nt) = true) (htop : memN TOP anc = false)
    (e0 : ∃ ats, o0.op = .call { callee := .builtin .recover, args := #[], argTypes := ats }) (e1 : o1.op = .assign (.tmp d0)) (g0 : o0.guard = none) (g1 : o1.guard = none) (k0 : o0.dst = some d0) (k1 : o1.dst = some d1) (l0 : Nat.blt d0 nt = true) (l1 : Nat.blt d1 nt = true)
    (hu : (asked u = none ∧ v = .nilIface ∧ u' = u) ∨ asked u = some (v, u')) (hx : ∀ h Im ρ, RA h Im ρ v x)
    (h : wpc X.E X.tab { nt, anc } rest (retP X.tab rs post) { f := (d1, x) :: (d0, x) :: entry 0 args, h := hin }) : CtrD X.E g args hin u u' post := by
  subst hnt; subst hanc; subst hrs
  refine ⟨⟨fn, hf, by rw [hb]; rfl, hname⟩, fun w Im ρ vs hG hIm hgl hsz hra hrel => ?_⟩
  obtain ⟨ok, S⟩ := entry_ok (nt := fn.ntmps) (Nat.le_of_ble_eq_true hargs) hG hIm hgl hsz hra hrel
  replace S := S.noMark rfl
  have htop' : TOP ∉ hin.map (·.1) := memN_spec htop
  have ok2 : ({ cxOf w Im ρ fn.ntmps hin [] with marks := false } : Cx).Ok X.E := ⟨ok.im, ok.gl, ok.G, fun h => absurd h htop'⟩
  refine callsD_of_wpS hf hb fun c0 cs hc0 => wpS_seq (wpS_region ?_)
  obtain ⟨ats, e0⟩ := e0
  have hd0 : d0 < (cxOf w Im ρ fn.ntmps hin []).nt := by simpa using l0
  have hd1 : d1 < (cxOf w Im ρ fn.ntmps hin []).nt := by simpa using l1
  let a0 : Act := { tmps := vs ++ Array.replicate (fn.ntmps - vs.size) undef, defers := [] }
  have S1 := S.put (v := v) (x := x) hd0 (hx _ _ _)
  have S2 := S1.put (v := v) (x := x) hd1 (hx _ _ _)
  have hrun0 : (execOp (Act.eval a0) o0).run X.E.P w = .ok .recover w := by
    simp [execOp, e0, resolve, invoke, builtin]
  have hrun1 : (execOp (Act.eval (a0.put (some d0) v)) o1).run X.E.P w = .ok (.value v) w := by
    have : (a0.put (some d0) v).eval (.tmp d0) = v := by
      show (a0.put (some d0) v).tmps.getD d0 undef = v
      rw [getD_set a0 d0 d0 v (by rw [S.nt]; exact hd0)]; simp
    simp [execOp, e1, this]
  have hw : ∀ (o : Oper) y, o.guard = none → Region.wanted o y = true := fun o y hg => by simp [Region.wanted, hg]
  have hcs : ∃ cs', (match recoverD (c0 :: cs) with | some (v, cs') => (v, cs') | none => (Value.nilIface, c0 :: cs)) = (v, cs') ∧ cs' = { c0 with mode := u' } :: cs := by
    rw [recoverD_asked c0 cs hc0]
    rcases hu with ⟨h1, h2, h3⟩ | h1
    · rw [h1]; subst h2; subst h3; subst hc0; exact ⟨_, rfl, rfl⟩
    · rw [h1]; exact ⟨_, rfl, rfl⟩
  have fin : rest.wp X.E.P (fun e a' w' => bodyPostS X.E.P fn c0 cs (fun e m w' => m = u' ∧ Ends post w Im ρ hin e w') e a' ({ c0 with mode := u' } :: cs) w') ((a0.put (some d0) v).put (some d1) v) w := by
    refine wp_mono (wpIn_wide.1 ((wpc_ok h) _ ok2 rfl rfl Im ρ _ w (S2.weak (fun t => .inr ?_) fun r o h => h))) fun e a' w' ⟨hne, Im', ρ', s', S', hQ⟩ => ?_
    · simp only [St.F]
      rw [← lk_cons, ← lk_cons]
    · cases e with
      | normal => obtain ⟨v', h1, h2⟩ := RetP.ends ok2 rfl rfl rfl rfl (fun _ h => h) rfl hres S' hQ; exact ⟨S'.defs.only rfl, u', rfl, v', h1, rfl, h2⟩
      | ret => obtain ⟨v', h1, h2⟩ := RetP.ends ok2 rfl rfl rfl rfl (fun _ h => h) rfl hres S' hQ; exact ⟨S'.defs.only rfl, u', rfl, v', h1, rfl, h2⟩
      | panic ch =>
        obtain ⟨ho, h1, h2, h3⟩ := hQ.ok
        exact ⟨S'.defs.only rfl, u', rfl, rfl, ho, _, _, h3, S'.leave rfl rfl rfl (fun _ h => h) rfl h1 h2⟩
      | exit id => exact hQ.elim
      | goto l => exact hQ.elim
      | outgrown => exact absurd rfl hne
  show wpOpsS X.E.P #[o0, o1] _ [0, 1] a0 (c0 :: cs) w
  simp only [wpOpsS, List.getElem?_toArray, List.getElem?_cons_zero, List.getElem?_cons_succ, hw o0 _ g0, hw o1 _ g1, if_true, hrun0]
  obtain ⟨cs', h1, h2⟩ := hcs
  subst h2
  have two : ∀ cs2, cs2 = ({ c0 with mode := u' } : Frame) :: cs → o1.upon X.E.P (a0.put (some d0) v) (fun a' w' => Exit.thenS (rest.wpS X.E.P (bodyPostS X.E.P fn c0 cs (fun e m w' => m = u' ∧ Ends post w Im ρ hin e w'))) (bodyPostS X.E.P fn c0 cs (fun e m w' => m = u' ∧ Ends post w Im ρ hin e w')) .normal a' cs2 w')
      (fun e a' w' => Exit.thenS (rest.wpS X.E.P (bodyPostS X.E.P fn c0 cs (fun e m w' => m = u' ∧ Ends post w Im ρ hin e w'))) (bodyPostS X.E.P fn c0 cs (fun e m w' => m = u' ∧ Ends post w Im ρ hin e w')) e a' cs2 w') (.ok (.value v) w) := fun cs2 e => by
    subst e
    rw [Oper.upon_value, k1]
    exact wpS_of_wp fin
  cases hr : recoverD (c0 :: cs) with
  | none =>
    rw [hr] at h1
    injection h1 with h1 h2
    subst h1
    simp only [k0, hrun1]
    exact two _ h2
  | some p =>
    obtain ⟨v1, cs1⟩ := p
    rw [hr] at h1
    injection h1 with h1 h2
    subst h1
    simp only [k0, hrun1]
    exact two _ h2
def chainP (E : Env) (tab : List (Nat × TI)) (k : Kn) (K : St → Prop) (Q : APost) : List Code → St → Prop
  | [], s => K s
  | x :: r, s => wpc E tab k x (thenP (fun s => chainP E tab k K Q r s) Q) s
def seqs (tail : Code) : List Code → Code
  | [] => tail
  | x :: r => .seq x (seqs tail r)
theorem fence_wide {c : Cx} (h : c.rnd = none) : c.fence = Fence.wide := by simp [Cx.fence, Fence.wide, h]
theorem chain_wp {c : Cx} (hr : c.rnd = none) (ok : c.Ok X.E) (hn : c.nt = k.nt) (ha : c.anc = k.anc) {K : St → Prop} {Q : APost} {tail : Code} {Z : Exit → Act → World → Prop} (hK : ∀ s Im ρ a w, K s → Sim c Im ρ s.F s.H a w → tail.wp X.E.P Z a w) (hZ : ∀ e a w, e ≠ .normal → Lift c Q e a w → Z e a w) : ∀ (A : List Code) {s : St} {Im : Nat → Prop} {ρ : Nat → Option Loc} {a : Act} {w : World},
    chainP X.E X.tab k K Q A s → Sim c Im ρ s.F s.H a w → (seqs tail A).wp X.E.P Z a w
  | [], s, Im, ρ, a, w, h, S => hK s Im ρ a w h S
  | x :: r, s, Im, ρ, a, w, h, S => wp_seq (wp_mono (wpIn_wide.1 (fence_wide hr ▸ wpc_ok h c ok hn ha Im ρ a w S)) fun e a w ⟨h1, Im, ρ, s, S, hQ⟩ => by
    cases e with
    | normal => exact chain_wp hr ok hn ha hK hZ r hQ S
    | outgrown => exact absurd rfl h1
    | exit id => exact hZ _ _ _ (by simp) ⟨h1, Im, ρ, s, S, hQ⟩
    | goto l => exact hZ _ _ _ (by simp) ⟨h1, Im, ρ, s, S, hQ⟩
    | ret => exact hZ _ _ _ (by simp) ⟨h1, Im, ρ, s, S, hQ⟩
    | panic ch => exact hZ _ _ _ (by simp) ⟨h1, Im, ρ, s, S, hQ⟩)
structure DefP (E : Env) (tab : List (Nat × TI)) (rs : List ResultVar) (post : AOut → Prop) (g : FuncId) (caps : List AV) (u : FrameMode) (s : St) : Prop where
  ok : ∃ hin ho u', CtrD E g caps hin u u' (fun o => o = .ret (.tup []) ho) ∧ Go.settle u' = .returning ∧ (∀ r o, lkH r hin = some o → lkH r s.h = some o) ∧ (∀ r o, lkH r ho = some o → ∃ o', lkH r hin = some o') ∧ RetP tab rs post { f := s.f, h := s.back hin ho }
def defPost (E : Env) (tab : List (Nat × TI)) (rs : List ResultVar) (post : AOut → Prop) (g : FuncId) (caps : List AV) : APost
  | .ret, s | .normal, s => DefP E tab rs post g caps .returning s
  | .panic ch, s => DefP E tab rs post g caps (.panicking ch) s
  | _, _ => False
def deferK (E : Env) (tab : List (Nat × TI)) (k : Kn) (rs : List ResultVar) (post : AOut → Prop) (g : FuncId) (p q t : Nat) (B : Code) (s : St) : Prop := match lk p s.f, lk q s.f, lkH p s.h, lkH q s.h, Nat.blt p k.nt, Nat.blt q k.nt, Nat.blt t k.nt, memN p (TOP :: k.anc), memN q (TOP :: k.anc) with
  | .ptr p' 0, .ptr q' 0, some _, some _, true, true, true, false, false => match Nat.beq p' p, Nat.beq q' q with
    | true, true => wpc E tab { nt := k.nt, anc := p :: q :: k.anc } B (defPost E tab rs post g [.ptr p 0, .ptr q 0]) { f := (t, .junk) :: s.f, h := s.h }
    | _, _ => False
  | _, _, _, _, _, _, _, _, _ => False
theorem Ctr.recov {f : FuncId} {fn : Func} {args : List AV} {hin : HL} {post : AOut → Prop} (A : List Code) (idr : Nat) (o0 o1 : Oper) (B : Code) (nt : Nat) (anc : List Nat) (rs : List ResultVar) (g : FuncId) (p q t : Nat)
    (hf : X.E.P.funcs[f]? = some fn) (hb : fn.body = some (seqs (.seq (.region idr #[o0, o1] false) B) A)) (hnt : fn.ntmps = nt) (hanc : hin.map (·.1) = anc) (hrs : fn.results.toList = rs) (hname : (fn.name == "runtime.NumGoroutine") = false) (hargs : Nat.ble args.length nt = true) (hres : rs.all (resIn nt) = true) (htop : memN TOP anc = false)
    (e0 : o0.op = .makeFunc (.func g) #[] #[.tmp p, .tmp q]) (e1 : ∃ ats, o1.op = .defer { callee := .value (.tmp t), args := #[], argTypes := ats }) (g0 : o0.guard = none) (g1 : o1.guard = none) (k0 : o0.dst = some t) (k1 : o1.dst = none)
    (h : chainP X.E X.tab { nt, anc } (deferK X.E X.tab { nt, anc } rs post g p q t B) (retP X.tab rs post) A { f := entry 0 args, h := hin }) : Ctr X.E f args hin post := by
  subst hnt; subst hanc; subst hrs
  refine ⟨⟨fn, hf, by rw [hb]; cases A <;> rfl, hname⟩, fun w Im ρ vs hG hIm hgl hsz hra hrel => ?_⟩
  obtain ⟨ok, S⟩ := entry_ok (nt := fn.ntmps) (Nat.le_of_ble_eq_true hargs) hG hIm hgl hsz hra hrel
  replace S := S.noMark rfl
  have htop' : TOP ∉ hin.map (·.1) := memN_spec htop
  have ok2 : ({ cxOf w Im ρ fn.ntmps hin [] with marks := false } : Cx).Ok X.E := ⟨ok.im, ok.gl, ok.G, fun h => absurd h htop'⟩
  refine calls_of_wp_defers hf hb ?_
  refine chain_wp rfl ok2 rfl rfl (fun s Im1 ρ1 a1 w1 hk S1 => ?_) (fun e a' w' hne ⟨hne2, Im', ρ', s', S', hQ⟩ => ?_) A h S
  · -- the deferring
    unfold deferK at hk
    split at hk
    · rename_i p' q' op oq ep eq hop hoq lp lq lt mp0 mq0
      split at hk
      · rename_i b1 b2
        have := Nat.eq_of_beq_eq_true b1; subst this
        have := Nat.eq_of_beq_eq_true b2; subst this
        obtain ⟨ats, e1⟩ := e1
        have hlt : ∀ {n : Nat}, Nat.blt n fn.ntmps = true → n < (cxOf w Im ρ fn.ntmps hin []).nt := fun h => by simpa using h
        -- the values that are captured
        have hvp := S1.fr p' (hlt lp)
        have hvq := S1.fr q' (hlt lq)
        simp only [St.F] at hvp hvq
        rw [ep] at hvp
        rw [eq] at hvq
        generalize evp : a1.tmps.getD p' undef = vp at hvp
        generalize evq : a1.tmps.getD q' undef = vq at hvq
        let d : Deferred := { target := .fn (.func g) #[vp, vq], args := #[] }
        have hev : ∀ n, a1.eval (.tmp n) = a1.tmps.getD n undef := fun _ => rfl
        have hrun0 : (execOp a1.eval o0).run X.E.P w1 = .ok (.value (.func (.func g) #[] #[vp, vq])) w1 := by
          simp [execOp, e0, Instr.makeFunc, hev, evp, evq]
        let a2 : Act := a1.put (some t) (.func (.func g) #[] #[vp, vq])
        have hev2 : a2.eval (.tmp t) = .func (.func g) #[] #[vp, vq] := by
          show (a1.put (some t) (.func (.func g) #[] #[vp, vq])).tmps.getD t undef = _
          rw [getD_set a1 t t _ (by rw [S1.nt]; exact hlt lt)]; simp
        have hrun1 : (execOp a2.eval o1).run X.E.P w1 = .ok (.defer d) w1 := by
          simp [execOp, e1, resolve, Deferred.ofValue, hev2, d]
        let a3 : Act := { a2 with defers := d :: a2.defers }
        -- the context behind it
        let c' : Cx := { cxOf w Im ρ fn.ntmps hin [d] with marks := false, anc := p' :: q' :: hin.map (·.1), ρ0 := fun r => if r ∈ hin.map (·.1) then ρ r else ρ1 r }
        have ok' : c'.Ok X.E := ⟨ok.im, ok.gl, ok.G, fun h => by
          rcases List.mem_cons.1 h with h | h
          · exact (memN_spec mp0 (List.mem_cons.2 (.inl h.symm))).elim
          · rcases List.mem_cons.1 h with h | h
            · exact (memN_spec mq0 (List.mem_cons.2 (.inl h.symm))).elim
            · exact absurd h htop'⟩
        have S2 := S1.put (v := .func (.func g) #[] #[vp, vq]) (x := .junk) (hlt lt) (.junk _)
        have S3 : Sim c' Im1 ρ1 (St.F { f := (t, .junk) :: s.f, h := s.h }) (St.H { f := (t, .junk) :: s.f, h := s.h }) a3 w1 := by
          refine { defs := by { show Marks _ _ _ _ (d :: a2.defers) [d]; rw [show a2.defers = [] from S2.defs.only rfl]; exact .none }, nt := S2.nt, fr := fun n hn => ?_, obj := S2.obj, dis := S2.dis, imn := S2.imn, im0 := S2.im0, os := S2.os, tape := S2.tape, output := S2.output, size := S2.size, kept := S2.kept, anc := fun r hr l' hl' => ?_ }
          · have := S2.fr n hn
            simp only [St.F] at this ⊢
            rw [← lk_cons] at this
            exact this
          · show ∃ l, (if r ∈ hin.map (·.1) then ρ r else ρ1 r) = some l ∧ LocStep l l'
            by_cases hm : r ∈ hin.map (·.1)
            · rw [if_pos hm]; exact S2.anc r hm l' hl'
            · rw [if_neg hm]; exact ⟨l', hl', .inl rfl⟩
        -- the two operations
        refine wp_seq (wp_region ?_)
        show wpOps X.E.P #[o0, o1] _ [0, 1] a1 w1
        have hw : ∀ (o : Oper) y, o.guard = none → Region.wanted o y = true := fun o y hg => by simp [Region.wanted, hg]
        simp only [wpOps, List.getElem?_toArray, List.getElem?_cons_zero, List.getElem?_cons_succ, hw o0 _ g0, hw o1 _ g1, if_true]
        refine .inl ?_
        unfold Oper.wp
        rw [hrun0, Oper.upon_value, k0]
        refine .inl ?_
        rw [hrun1, Oper.upon_defer, k1]
        refine wp_mono (wpIn_wide.1 (wpc_ok hk c' ok' rfl rfl Im1 ρ1 _ w1 S3)) fun e a' w' ⟨hne, Im', ρ', s', S', hQ⟩ => ?_
        -- behind the body
        have leave : ∀ u, u ≠ .run → DefP X.E X.tab fn.results.toList post g [.ptr p' 0, .ptr q' 0] u s' → Leaves X.E.P fn a'.tmps (Ends post w Im ρ hin) a'.defers u w' := fun u hu hD => by
          obtain ⟨hi, ho, u', hctr, hset, hhi, hho, hR⟩ := hD.ok
          rw [show a'.defers = [d] from S'.defs.only rfl]
          have hptr : ∀ {v : Value} {r : Nat}, (r = p' ∨ r = q') → RA (hp w1) Im1 ρ1 v (.ptr r 0) → RA (hp w') Im' ρ' v (.ptr r 0) := fun {v r} hr H => by
            cases H with
            | ptr _ _ _ h1 h2 =>
              refine .ptr _ _ _ h1 fun l' hl' => ?_
              obtain ⟨l, h3, h4⟩ := S'.anc r (by rcases hr with rfl | rfl <;> simp [c']) l' hl'
              have hm : r ∉ hin.map (·.1) := by
                rcases hr with rfl | rfl
                · exact fun h => memN_spec mp0 (List.mem_cons_of_mem _ h)
                · exact fun h => memN_spec mq0 (List.mem_cons_of_mem _ h)
              have h3 : (if r ∈ hin.map (·.1) then ρ r else ρ1 r) = some l := h3
              rw [if_neg hm] at h3
              obtain ⟨h5, b, h6, h7⟩ := h2 l h3
              rcases h4 with rfl | ⟨h8, _⟩ | ⟨_, m, rfl⟩
              · exact ⟨h5, b, h6, h7⟩
              · rw [h5] at h8; exact absurd h8 (by simp)
              · exact ⟨h5, b, h6, h7⟩
          refine leaves_cons hu (f := g) (args := #[vp, vq]) (by simp [invoke, run_callFunc hctr.1]) ?_
          refine (hctr.2 w' Im' ρ' #[vp, vq] (S'.G ok') (fun b hb => (S'.imn b hb).1) (fun b hb => S'.im0 b (ok'.gl b hb)) rfl (fun i v x h1 h2 => ?_) (S'.hrel hhi)).mono fun e m w2 ⟨hm, he⟩ => ?_
          · match i with
            | 0 => simp at h1 h2; subst h1; subst h2; exact hptr (.inl rfl) hvp
            | 1 => simp at h1 h2; subst h1; subst h2; exact hptr (.inr rfl) hvq
            | n + 2 => simp at h1
          · subst hm
            cases e with
            | returned v =>
              obtain ⟨res, ho', Im2, ρ2, hpost, hra2, hcl, haft⟩ := he
              injection hpost with h1 h2; subst h1; subst h2
              have S4 := S'.call hhi haft fun r o hr => .inl (hho r o hr)
              have S5 : Sim { cxOf w Im ρ fn.ntmps hin [d] with marks := false } Im2 (backρ ρ' ρ2 hi ho') s'.F (fun r => lkH r (s'.back hi ho')) a' w2 := by
                refine { defs := S4.defs, nt := S4.nt, fr := S4.fr, obj := S4.obj, dis := S4.dis, imn := S4.imn, im0 := S4.im0, os := S4.os, tape := S4.tape, output := S4.output, size := S4.size, kept := S4.kept, anc := fun r hr l' hl' => ?_ }
                obtain ⟨l, h3, h4⟩ := S4.anc r (by simp only [c', List.mem_cons]; exact .inr (.inr hr)) l' hl'
                have h3 : (if r ∈ hin.map (·.1) then ρ r else ρ1 r) = some l := h3
                rw [if_pos hr] at h3
                exact ⟨l, h3, h4⟩
              show Leaves X.E.P fn a'.tmps (Ends post w Im ρ hin) [] (Go.settle m) w2
              rw [hset]
              exact RetP.ends (c := { cxOf w Im ρ fn.ntmps hin [d] with marks := false }) ⟨ok.im, ok.gl, ok.G, fun h => absurd h htop'⟩ rfl rfl rfl rfl (fun _ h => h) rfl hres S5 hR
            | panicked ch =>
              obtain ⟨_, _, _, hpost, _⟩ := he
              exact absurd hpost (by simp)
            | outgrown => exact he.elim
        cases e with
        | normal => exact leave .returning (by simp) hQ
        | ret => exact leave .returning (by simp) hQ
        | panic ch => exact leave (.panicking ch) (by simp) hQ
        | exit id => exact hQ.elim
        | goto l => exact hQ.elim
        | outgrown => exact absurd rfl hne
      · exact hk.elim
    · exact hk.elim
  · -- an end ahead of the deferring
    cases e with
    | normal => exact absurd rfl hne
    | ret =>
      show Leaves X.E.P fn a'.tmps _ a'.defers .returning w'
      rw [show a'.defers = [] from S'.defs.only rfl]
      exact RetP.ends ok2 rfl rfl rfl rfl (fun _ h => h) rfl hres S' hQ
    | panic ch =>
      obtain ⟨ho, h1, h2, h3⟩ := hQ.ok
      show Leaves X.E.P fn a'.tmps _ a'.defers (.panicking ch) w'
      rw [show a'.defers = [] from S'.defs.only rfl]
      exact ⟨ho, _, _, h3, S'.leave rfl rfl rfl (fun _ h => h) rfl h1 h2⟩
    | exit id => exact hQ.elim
    | goto l => exact hQ.elim
    | outgrown => exact absurd rfl hne2
end Go.Ax
namespace Go.Ax
variable {X : Ax} {k : Kn}
structure BothP (p q : Prop) : Prop where
  a : p
  b : q
def nthB : List Bool → Nat → Bool
  | [], _ => false
  | b :: _, 0 => b
  | _ :: r, n + 1 => nthB r n
def setB : List Bool → Nat → List Bool
  | [], _ => []
  | _ :: r, 0 => true :: r
  | b :: r, n + 1 => b :: setB r n
theorem nthB_eq : ∀ (l : List Bool) (i : Nat), nthB l i = l.getD i false
  | [], i => by simp [nthB]
  | b :: r, 0 => by simp [nthB]
  | b :: r, i + 1 => by simp [nthB, nthB_eq r i]
theorem setB_eq : ∀ (l : List Bool) (i : Nat), setB l i = l.set i true
  | [], i => by simp [setB]
  | b :: r, 0 => by simp [setB]
  | b :: r, i + 1 => by simp [setB, setB_eq r i]
def depsB (L : List Bool) : List Edge → Bool
  | [] => true
  | e :: es => match bindE e with
    | true => match nthB L e.on with
      | true => depsB L es
      | false => false
    | false => depsB L es
theorem depsB_spec {L : List Bool} : ∀ {es : List Edge}, depsB L es = true ↔ ∀ e ∈ es, bindE e = true → nthB L e.on = true
  | [] => by simp [depsB]
  | e :: es => by
    simp only [depsB, List.mem_cons, forall_eq_or_imp]
    cases hb : bindE e with
    | false => simp [depsB_spec (es := es)]
    | true =>
      cases hn : nthB L e.on with
      | true => simp [depsB_spec (es := es)]
      | false => simp
def readyGo (L : List Bool) : List Oper → Nat → List Nat
  | [], _ => []
  | o :: r, i => match nthB L i with
    | true => readyGo L r (i + 1)
    | false => match depsB L o.after.toList with
      | true => i :: readyGo L r (i + 1)
      | false => readyGo L r (i + 1)
theorem mem_readyGo {L : List Bool} : ∀ {ops : List Oper} {i j : Nat}, j ∈ readyGo L ops i ↔ ∃ m o, j = i + m ∧ ops[m]? = some o ∧ nthB L j = false ∧ depsB L o.after.toList = true
  | [], i, j => by simp [readyGo]
  | o :: r, i, j => by
    have ih := mem_readyGo (L := L) (ops := r) (i := i + 1) (j := j)
    have key : (∃ m o', j = i + m ∧ (o :: r)[m]? = some o' ∧ nthB L j = false ∧ depsB L o'.after.toList = true) ↔ (j = i ∧ nthB L i = false ∧ depsB L o.after.toList = true) ∨ ∃ m o', j = i + 1 + m ∧ r[m]? = some o' ∧ nthB L j = false ∧ depsB L o'.after.toList = true := by
      constructor
      · rintro ⟨m, o', h1, h2, h3, h4⟩
        cases m with
        | zero => simp at h2; subst h2; simp at h1; subst h1; exact .inl ⟨rfl, h3, h4⟩
        | succ m => exact .inr ⟨m, o', by omega, by simpa using h2, h3, h4⟩
      · rintro (⟨h1, h2, h3⟩ | ⟨m, o', h1, h2, h3, h4⟩)
        · subst h1; exact ⟨0, o, rfl, rfl, h2, h3⟩
        · exact ⟨m + 1, o', by omega, by simpa using h2, h3, h4⟩
    rw [key, ← ih]
    simp only [readyGo]
    cases h1 : nthB L i with
    | true => simp
    | false =>
      cases h2 : depsB L o.after.toList with
      | true => simp
      | false => simp
def forceB : List Bool → (List Bool → Prop) → Prop
  | [], K => K []
  | true :: r, K => forceB r fun r => K (true :: r)
  | false :: r, K => forceB r fun r => K (false :: r)
theorem forceB_spec : ∀ {l : List Bool} {K : List Bool → Prop}, forceB l K → K l
  | [], _, h => h
  | true :: r, K, h => forceB_spec (l := r) (K := fun r => K (true :: r)) h
  | false :: r, K, h => forceB_spec (l := r) (K := fun r => K (false :: r)) h
def oneP (E : Env) (tab : List (Nat × TI)) (k : Kn) (ops : List Oper) (KP : List PanicEntry → St → Prop) (o : Oper) (s : St) (K : St → Prop) : Prop := match dstIn k.nt o.dst, guardV ops s o.guard with
  | true, some (b, want) => match want with
    | true => ifB b (opP E tab k KP o s K) (skipP s o.dst K)
    | false => ifB b (skipP s o.dst K) (opP E tab k KP o s K)
  | _, _ => False
def allQ (f : Nat → Prop) : Nat → List Nat → Prop
  | i, [] => f i
  | i, j :: r => BothP (f i) (allQ f j r)
theorem allQ_spec {f : Nat → Prop} : ∀ {i : Nat} {r : List Nat}, allQ f i r → ∀ j ∈ i :: r, f j
  | i, [], h, j, hj => by simp at hj; subst hj; exact h
  | i, q :: r, h, j, hj => by
    rcases List.mem_cons.1 hj with rfl | hj
    · exact h.a
    · exact allQ_spec h.b j hj
def anyP (E : Env) (tab : List (Nat × TI)) (k : Kn) (ops : List Oper) (K : St → Prop) (KP : List PanicEntry → St → Prop) : Nat → List Bool → St → Prop
  | 0, L, s => match readyGo L ops 0 with
    | [] => K s
    | _ :: _ => False
  | n + 1, L, s => match readyGo L ops 0 with
    | [] => K s
    | i :: r => allQ (fun i => match nth ops i with
      | some o => forceB (setB L i) fun L => oneP E tab k ops KP o s (fun s => anyP E tab k ops K KP n L s)
      | none => False) i r
theorem oneP_ok {ops : List Oper} {KP : List PanicEntry → St → Prop} {K : St → Prop} {Q : APost} (hall : ops.all (fun o => dstIn k.nt o.dst) = true) (hP : ∀ ch s, KP ch s → Q (.panic ch) s) {o : Oper} {s : St} {c : Cx} {Im : Nat → Prop} {ρ : Nat → Option Loc} {a : Act} {w : World} {next : Act → World → Prop} (ok : c.Ok X.E) (hn : c.nt = k.nt) (ha : c.anc = k.anc) (S : Sim c Im ρ s.F s.H a w)
    (h : oneP X.E X.tab k ops KP o s K) (hK : ∀ s' Im' ρ' a' w', K s' → Sim c Im' ρ' s'.F s'.H a' w' → next a' w') : if Region.wanted o (yielded ops.toArray a.tmps) then o.wpIn c.fence 0 X.E.P a w next (Lift c Q) else (∀ f, o.about X.E.P w a.eval = some f → c.fence.fn f) ∧ next (a.put o.dst undef) w := by
  unfold oneP at h
  split at h
  · rename_i b want hd hg
    have hw := guard_ok S hn hall hg
    rw [hw]
    have hyes : opP X.E X.tab k KP o s K → o.wpIn c.fence 0 X.E.P a w next (Lift c Q) := fun h => opP_ok ok hn ha S hd hP h hK
    have hno : skipP s o.dst K → next (a.put o.dst undef) w := fun h => hK _ _ _ _ _ (skipP_spec h) (S.set hn hd (.tup #[] [] rfl (by simp)) rfl)
    cases want with
    | true =>
      cases b with
      | true => exact hyes h
      | false => exact ⟨fun _ _ => trivial, hno h⟩
    | false =>
      cases b with
      | true => exact ⟨fun _ _ => trivial, hno h⟩
      | false => exact hyes h
  · exact h.elim
theorem ready_eq {ops : List Oper} {L : List Bool} (hl : L.length = ops.length) (j : Nat) : j ∈ Region.ready .any ops.toArray L.toArray ↔ j ∈ readyGo L ops 0 := by
  rw [mem_ready, mem_readyGo]
  constructor
  · rintro ⟨h1, o, h2, h3⟩
    have h2 : ops[j]? = some o := by simpa using h2
    have hlt : j < ops.length := (List.getElem?_eq_some_iff.1 h2).1
    refine ⟨j, o, by omega, h2, ?_, depsB_spec.2 fun e he hb => ?_⟩
    · rw [nthB_eq]
      simp [Array.getD_eq_getD_getElem?, List.getElem?_eq_getElem (by omega : j < L.length)] at h1
      simp [List.getD, List.getElem?_eq_getElem (by omega : j < L.length), h1]
    · have := h3 e (by simpa using he) hb
      rw [nthB_eq]
      simpa [Array.getD_eq_getD_getElem?, List.getD] using this
  · rintro ⟨m, o, h1, h2, h3, h4⟩
    have h1 : j = m := by omega
    subst h1
    have hlt : j < ops.length := (List.getElem?_eq_some_iff.1 h2).1
    refine ⟨?_, o, by simpa using h2, fun e he hb => ?_⟩
    · rw [nthB_eq] at h3
      simp [List.getD, List.getElem?_eq_getElem (by omega : j < L.length)] at h3
      simp [Array.getD_eq_getD_getElem?, List.getElem?_eq_getElem (by omega : j < L.length), h3]
    · have := depsB_spec.1 h4 e (by simpa using he) hb
      rw [nthB_eq] at this
      simpa [Array.getD_eq_getD_getElem?, List.getD] using this
theorem anyP_ok {ops : List Oper} {KP : List PanicEntry → St → Prop} {K : St → Prop} {Q : APost} (hall : ops.all (fun o => dstIn k.nt o.dst) = true) (hP : ∀ ch s, KP ch s → Q (.panic ch) s) (hK : ∀ s, K s → Q .normal s) {c : Cx} (ok : c.Ok X.E) (hn : c.nt = k.nt) (ha : c.anc = k.anc) : ∀ (n : Nat) {L : List Bool} {s : St} {Im : Nat → Prop} {ρ : Nat → Option Loc} {a : Act} {w : World}, L.length = ops.length →
    Sim c Im ρ s.F s.H a w → anyP X.E X.tab k ops K KP n L s → wpAnyIn c.fence 0 X.E.P .any ops.toArray (Lift c Q) n L.toArray a w
  | 0, L, s, Im, ρ, a, w, hl, S, h => by
    unfold anyP at h
    split at h
    · rename_i hr
      refine ⟨List.eq_nil_iff_forall_not_mem.2 fun j hj => ?_, by simp, Im, ρ, s, S, hK s h⟩
      rw [ready_eq hl j, hr] at hj; simp at hj
    · exact h.elim
  | n + 1, L, s, Im, ρ, a, w, hl, S, h => by
    unfold anyP at h
    split at h
    · rename_i hr
      refine ⟨fun _ => ⟨by simp, Im, ρ, s, S, hK s h⟩, fun j hj => ?_⟩
      rw [ready_eq hl j, hr] at hj; simp at hj
    · rename_i i r hr
      refine ⟨fun h0 => ?_, fun j hj => ?_⟩
      · have : i ∈ Region.ready .any ops.toArray L.toArray := (ready_eq hl i).2 (by rw [hr]; simp)
        rw [h0] at this; simp at this
      · have hj2 := (ready_eq hl j).1 hj
        rw [hr] at hj2
        have hp := allQ_spec h j hj2
        split at hp
        · rename_i o ho
          rw [nth_eq] at ho
          have hp := forceB_spec hp
          have := oneP_ok (X := X) (Q := Q) (next := wpAnyIn c.fence 0 X.E.P .any ops.toArray (Lift c Q) n (L.toArray.setIfInBounds j true)) hall hP ok hn ha S hp fun s' Im' ρ' a' w' hk S' => by
            have := anyP_ok hall hP hK ok hn ha n (L := setB L j) (by rw [setB_eq]; simpa using hl) S' hk
            rw [setB_eq] at this
            simpa using this
          unfold wpOpIn
          have ho2 : ops.toArray[j]? = some o := by simpa using ho
          simp only [ho2]
          exact this
        · exact hp.elim
def falseL : List Oper → List Bool
  | [] => []
  | _ :: r => false :: falseL r
theorem falseL_eq : ∀ (l : List Oper), falseL l = List.replicate l.length false
  | [] => rfl
  | _ :: r => by simp [falseL, falseL_eq r, List.replicate_succ]
theorem DrawP.any {id : Nat} {ops : Array Oper} {Q : APost} {s : St} (hs : ops.toList.all (fun o => dstIn k.nt o.dst) = true)
    (h : anyP X.E X.tab k ops.toList (fun s => Q .normal s) (fun ch s => Q (.panic ch) s) ops.toList.length (falseL ops.toList) s) : DrawP X.E k id ops Q s :=
  ⟨fun c ok hn ha Im ρ a w S => by
    refine wpIn_region_any X.E.mixed ?_
    have S' : Sim c Im ρ s.F s.H a { w with drawn := w.drawn + 1 } := S.world rfl rfl rfl rfl
    have := anyP_ok (X := X) (Q := Q) hs (fun _ _ h => h) (fun _ h => h) ok hn ha ops.toList.length (L := falseL ops.toList) (by rw [falseL_eq]; simp) S' h
    rw [falseL_eq] at this
    simpa using this⟩
theorem DrawP.join {E : Env} {id : Nat} {ops : Array Oper} {Q : APost} {s : St} (s1 : St) (h : DrawP E k id ops (fun e s => match e with | .normal => s1.Le s | e => Q e s) s) (hq : Q .normal s1) : DrawP E k id ops Q s :=
  ⟨fun c ok hn ha Im ρ a w S => wpIn_mono (h.ok c ok hn ha Im ρ a w S) fun e a' w' ⟨hne, Im', ρ', s', S', hQ⟩ => by
    cases e with
    | normal =>
      have hQ : s1.Le s' := hQ
      exact ⟨hne, Im', ρ', s1, S'.weak (fun t => LeF.at hQ.1 t) (fun r o => LeH.at hQ.2 r o), hq⟩
    | _ => exact ⟨hne, Im', ρ', s', S', hQ⟩⟩
end Go.Ax
namespace Go.Ax
open Go.Proofs
def outP {α : Type} (ch : List PanicEntry) (rx : α → AV) (hx : α → HL) : Option α → AOut
  | none => .pan ch []
  | some x => .ret (rx x) (hx x)
theorem lkH_memb : ∀ {h : HL} {r : Nat} {o : AObj}, lkH r h = some o → ∃ p ∈ h, p.1 = r
  | [], r, o, h => by simp [lkH] at h
  | (q, v) :: h, r, o, hr => by
    simp only [lkH] at hr
    split at hr
    · rename_i hb; exact ⟨_, List.mem_cons_self .., Nat.eq_of_beq_eq_true hb⟩
    · obtain ⟨p, h1, h2⟩ := lkH_memb hr; exact ⟨p, List.mem_cons_of_mem _ h1, h2⟩
theorem lkH_in {hin ho : HL} (h2 : ho.all (fun p => (lkH p.1 hin).isSome) = true) {r : Nat} {o : AObj} (hr : lkH r ho = some o) : ∃ o', lkH r hin = some o' := by
  obtain ⟨p, q1, q2⟩ := lkH_memb hr
  have := List.all_eq_true.1 h2 p q1
  rw [q2] at this
  exact Option.isSome_iff_exists.1 this
theorem CallP.may {E : Env} {k : Kn} {f : FuncId} {args : List AV} {s : St} {K : AV → HL → Prop} {KP : List PanicEntry → HL → Prop} {α : Type} {ch : List PanicEntry} {rx : α → AV} {hx : α → HL} {sp : Option α} {hin : HL} (h : Ctr E f args hin fun o => o = outP ch rx hx sp)
    (h1 : LeH hin s.h) (h2 : ∀ x, (hx x).all (fun p => (lkH p.1 hin).isSome) = true) (hp : sp = none → KP ch (killed hin ++ s.h)) (hr : ∀ x, sp = some x → K (rx x) (hx x ++ (killed hin ++ s.h))) : CallP E k f args s K KP :=
  ⟨hin, _, h, fun r o hr => LeH.at h1 r o hr, fun res ho e => by
    cases hs : sp with
    | none => rw [hs] at e; exact absurd e (by simp [outP])
    | some x =>
      rw [hs] at e; injection e with e1 e2; subst e1; subst e2
      exact ⟨fun r o hr => .inl (lkH_in (h2 x) hr), hr x hs⟩, fun ch' ho e => by
    cases hs : sp with
    | some x => rw [hs] at e; exact absurd e (by simp [outP])
    | none =>
      rw [hs] at e; injection e with e1 e2; subst e1; subst e2
      exact ⟨fun r o hr => by simp [lkH] at hr, hp hs⟩⟩
theorem CallP.fails {E : Env} {k : Kn} {f : FuncId} {args : List AV} {s : St} {K : AV → HL → Prop} {KP : List PanicEntry → HL → Prop} {ch : List PanicEntry} (h : Ctr E f args [] fun o => o = .pan ch []) (hp : KP ch s.h) : CallP E k f args s K KP :=
  ⟨[], _, h, fun r o hr => by simp [lkH] at hr, fun res ho e => by simp at e, fun ch' ho e => by
    injection e with e1 e2; subst e1; subst e2
    exact ⟨fun r o hr => by simp [lkH] at hr, hp⟩⟩
theorem CallP.dies {E : Env} {k : Kn} {f : FuncId} {args : List AV} {s : St} {K : AV → HL → Prop} {KP : List PanicEntry → HL → Prop} {ch : List PanicEntry} {hin : HL} (h : Ctr E f args hin fun o => o = .pan ch []) (h1 : LeH hin s.h) (hp : KP ch (killed hin ++ s.h)) : CallP E k f args s K KP :=
  ⟨hin, _, h, fun r o hr => LeH.at h1 r o hr, fun res ho e => by simp at e, fun ch' ho e => by
    injection e with e1 e2; subst e1; subst e2
    exact ⟨fun r o hr => by simp [lkH] at hr, hp⟩⟩
theorem Ctr.none {E : Env} {f : FuncId} {args : List AV} {hin : HL} {α : Type} {ch : List PanicEntry} {rx : α → AV} {hx : α → HL} {sp : Option α} (h : Ctr E f args hin fun o => o = outP ch rx hx sp) (hs : sp = Option.none) : Ctr E f args hin fun o => o = .pan ch [] :=
  h.mono fun o ho => by rw [ho, hs]; rfl
theorem Ctr.some {E : Env} {f : FuncId} {args : List AV} {hin : HL} {α : Type} {ch : List PanicEntry} {rx : α → AV} {hx : α → HL} {sp : Option α} {x : α} (h : Ctr E f args hin fun o => o = outP ch rx hx sp) (hs : sp = Option.some x) : Ctr E f args hin fun o => o = .ret (rx x) (hx x) :=
  h.mono fun o ho => by rw [ho, hs]; rfl
theorem CallP.hlb {E : Env} {k : Kn} {f : FuncId} {args : List AV} {s : St} {K : AV → HL → Prop} {KP : List PanicEntry → HL → Prop} {res : AV} {hin ho : HL} (h : Ctr E f args hin fun o => o = .ret res ho) (h1 : LeH hin s.h) (h2 : ho.all (fun p => (lkH p.1 hin).isSome) = true)
    (hk : K res (ho ++ (killed hin ++ s.h))) : CallP E k f args s K KP :=
  ⟨_, _, h, fun r o hr => LeH.at h1 r o hr, fun res' ho' e => by
    injection e with e1 e2; subst e1; subst e2
    exact ⟨fun r o hr => .inl (lkH_in h2 hr), hk⟩, fun ch ho e => by simp at e⟩
theorem CallD.hlb {E : Env} {f : FuncId} {args : List AV} {s : St} {K : AV → HL → HL → Prop} {PD : List PanicEntry → Prop} {res : AV} {hin ho : HL} (h : Ctr E f args hin fun o => o = .ret res ho) (h1 : LeH hin s.h) (hk : K res hin ho) : CallD E f args s K PD :=
  ⟨hin, _, _, h.mono fun o ho => .inl ho, fun r o hr => LeH.at h1 r o hr, hk⟩
theorem Ctr.loose {E : Env} {f : FuncId} {args : List AV} {hin : HL} {α : Type} {ch : List PanicEntry} {rx rx' : α → AV} {hx : α → HL} {sp : Option α} (h : Ctr E f args hin fun o => o = outP ch rx hx sp ∨ o = outP ch rx' hx sp) (hc : ∀ x q, (rx' x).ment q = false)
    (hle : ∀ (x : α) (w : World) (Im : Nat → Prop) (ρ : Nat → Option Loc) (v : Value), RA (hp w) Im ρ v (rx x) → RA (hp w) Im ρ v (rx' x)) : Ctr E f args hin fun o => o = outP ch rx' hx sp :=
  ⟨h.1, fun w Im ρ vs g1 g2 g3 g4 g5 g6 => (h.2 w Im ρ vs g1 g2 g3 g4 g5 g6).mono fun e w' he => by
    cases e with
    | returned v =>
      obtain ⟨res, ho', Im', ρ', h1, h2, h3, A⟩ := he
      cases hs : sp with
      | none => rw [hs] at h1; exact absurd h1 (by simp [outP])
      | some x =>
        rw [hs] at h1
        rcases h1 with h1 | h1
        · injection h1 with e1 e2; subst e1; subst e2
          exact ⟨rx' x, _, Im', ρ', rfl, hle _ _ _ _ _ h2, fun q hq => by rw [hc x q] at hq; simp at hq, A⟩
        · exact ⟨res, ho', Im', ρ', h1, h2, h3, A⟩
    | panicked chn =>
      obtain ⟨ho', Im', ρ', h1, A⟩ := he
      exact ⟨ho', Im', ρ', h1.elim (fun h => by cases sp with | none => exact h | some x => exact absurd h (by simp [outP])) id, A⟩
    | outgrown => exact he⟩
theorem Ctr.row {E : Env} {f : FuncId} {args : List AV} {hin : HL} {α : Type} {ch : List PanicEntry} {row : α → List D} {hx : α → HL} {sp : Option α} (h : Ctr E f args hin fun o => (o = .pan ch [] ∧ sp = Option.none) ∨ ∃ x xs, sp = Option.some x ∧ DLes xs (row x) ∧ o = .ret (.dagg xs) (hx x)) :
    Ctr E f args hin fun o => o = outP ch (fun x => .dagg (row x)) hx sp :=
  ⟨h.1, fun w Im ρ vs g1 g2 g3 g4 g5 g6 => (h.2 w Im ρ vs g1 g2 g3 g4 g5 g6).mono fun e w' he => by
    cases e with
    | returned v =>
      obtain ⟨res, ho', Im', ρ', h1, h2, h3, A⟩ := he
      rcases h1 with ⟨h1, _⟩ | ⟨x, xs, e1, e2, e3⟩
      · exact absurd h1 (by simp)
      · injection e3 with e3 e4; subst e3; subst e4
        exact ⟨.dagg (row x), _, Im', ρ', by rw [e1]; rfl, h2.dagg_le e2, fun q hq => by simp [AV.ment] at hq, A⟩
    | panicked chn =>
      obtain ⟨ho', Im', ρ', h1, A⟩ := he
      rcases h1 with ⟨h1, h2⟩ | ⟨x, xs, e1, e2, e3⟩
      · exact ⟨ho', Im', ρ', by rw [h2]; exact h1, A⟩
      · exact absurd e3 (by simp)
    | outgrown => exact he⟩
theorem Sub.frzCell {E : Env} {k : Kn} {s : St} (q i r n off len sz : Nat) (el : TypeId) (cs : List AV) (els : List (List D)) (hq : lkH q s.h = Option.some (.var cs)) (hi : cs[i]? = Option.some (.msl r n off len)) (hr : lkH r s.h = Option.some (.buf sz el els)) (hqr : q ≠ r) (hn : n = els.length) (hle : off + len ≤ n) :
    Sub E k { f := s.f, h := (q, Option.some (.var (cs.set i (.d (.sl false sz ((els.drop off).take len)))))) :: (r, Option.none) :: s.h } s := fun c ok hnt ha Im ρ a w S => by
  obtain ⟨l, hl', hro, hown⟩ := S.obj r _ hr
  have hH : ∀ q o, (upd s.H r Option.none) q = Option.some o → q ≠ r ∧ s.H q = Option.some o := fun q o hq => by
    by_cases e : q = r
    · subst e; rw [upd_same] at hq; simp at hq
    · rw [upd_ne _ _ e] at hq; exact ⟨e, hq⟩
  have hI : ∀ b, Im b → Im b ∨ b ∈ l.fp := fun b hb => .inl hb
  have S2 : Sim c (fun b => Im b ∨ b ∈ l.fp) ρ s.F (upd s.H r Option.none) a w := by
    refine { defs := S.defs.mono hI (fun _ _ => rfl), nt := S.nt, fr := fun q hq => ?_, obj := fun q o hq => ?_, dis := fun q q' o o' l1 l2 h1 h2 hne e1 e2 => ?_, imn := fun b hb => ?_, im0 := fun b hb => .inl (S.im0 b hb), os := S.os, tape := S.tape, output := S.output, size := S.size, kept := S.kept, anc := S.anc }
    · exact (S.fr q hq).mono hI (fun _ _ => rfl) fun p _ l1 hl1 => ⟨l1, hl1, .inl rfl⟩
    · obtain ⟨h1, h2⟩ := hH q o hq
      obtain ⟨l1, g1, g2, g3⟩ := S.obj q o h2
      refine ⟨l1, g1, g2.mono hI (fun _ _ => rfl) (fun _ _ => rfl) (fun p _ l1 hl1 => ⟨l1, hl1, .inl rfl⟩), fun b hb => ⟨(g3 b hb).1, fun hi => ?_, (g3 b hb).2.2⟩⟩
      rcases hi with hi | hi
      · exact (g3 b hb).2.1 hi
      · exact S.dis q r o _ l1 l h2 hr h1 g1 hl' b hb hi
    · exact S.dis q q' o o' l1 l2 (hH q o h1).2 (hH q' o' h2).2 hne e1 e2
    · rcases hb with hb | hb
      · exact S.imn b hb
      · exact ⟨(hown b hb).1, .inr (hown b hb).2.2⟩
  obtain ⟨lq, hlq, hroq0, _⟩ := S.obj q _ hq
  obtain ⟨lq2, hlq2, hroq, _⟩ := S2.obj q (.var cs) (by rw [upd_ne _ _ hqr]; exact hq)
  rw [hlq] at hlq2; injection hlq2 with hlq2; subst hlq2
  have hρ : upd ρ q (Option.some lq) = ρ := by
    funext x
    by_cases hx : x = q
    · subst hx; rw [upd_same, hlq]
    · rw [upd_ne _ _ hx]
  have S3 := S2.chg (w' := w) (r := q) (l := lq) (l' := lq) (o' := .var (cs.set i (.d (.sl false sz ((els.drop off).take len))))) (by rw [upd_ne _ _ hqr]; exact hq) hlq (Grows.refl w _) (.inl rfl) (fun b hb => .inl hb) (by
    rw [hρ]
    refine ⟨hroq.1, hroq.2.1, ?_⟩
    obtain ⟨b, ms, t, h1, h2, h3, h4⟩ := hroq.2.2
    obtain ⟨b0, ms0, t0, j1, j2, j3, j4⟩ := hroq0.2.2
    have : b0 = b := by rw [h1] at j1; injection j1 with j1; exact j1.symm
    subst this
    have : ms0 = ms := by rw [h2] at j2; injection j2 with j2; injection j2 with j2; exact j2.symm
    subst this
    refine ⟨b0, ms0, t, h1, h2, by simpa using h3, fun j v hv x hx => ?_⟩
    by_cases hj : i = j
    · subst hj
      have hil := (List.getElem?_eq_some_iff.1 hi).1
      rw [List.getElem?_set_self hil] at hx
      injection hx with hx; subst hx
      obtain ⟨h5, h6⟩ := j4 i v hv _ hi
      refine ⟨?_, h6⟩
      cases h5 with
      | msl _ _ _ _ _ h0 hp2 =>
        have hval := (hp2 l hl').2 (by rw [hro.2.2.2.1]; exact hn)
        rw [hval]
        exact .d _ _ (RD.ofBuf hro hI (fun b hb => .inr hb) (by omega))
    · rw [List.getElem?_set_ne hj] at hx
      exact h4 j v hv x hx)
  rw [hρ] at S3
  refine ⟨(fun b => Im b ∨ b ∈ l.fp), ρ, ?_⟩
  have e2 : (St.H { f := s.f, h := (q, Option.some (.var (cs.set i (.d (.sl false sz ((els.drop off).take len)))))) :: (r, Option.none) :: s.h }) = upd (upd s.H r Option.none) q (Option.some (.var (cs.set i (.d (.sl false sz ((els.drop off).take len)))))) := by
    rw [show upd s.H r Option.none = St.H { f := s.f, h := (r, Option.none) :: s.h } from (lkH_cons r _ s.h).symm]
    exact lkH_cons q _ _
  rw [e2]
  exact S3
end Go.Ax
