/-
  The table of types. No condition.
-/
import Derived.Test.YtndlhhhebijknaaSxb
namespace Go.Proofs.Ytndlhhhebijknaa
set_option linter.unusedVariables false
namespace Sx
def tds : List (Nat × TD) := [(1, ⟨.fn, 1, 8, [.one (.nilFn)]⟩),
  (2, ⟨.int .i64, 1, 8, [.one (.int .i64 0)]⟩),
  (3, ⟨.int .i64, 1, 8, [.one (.int .i64 0)]⟩),
  (4, ⟨.bool, 1, 1, [.one (.bool false)]⟩),
  (5, ⟨.int .u8, 1, 1, [.one (.w8 0)]⟩),
  (6, ⟨.int .u8, 1, 1, [.one (.w8 0)]⟩),
  (7, ⟨.struct [(2, 0), (3, 1), (4, 2), (6, 3)], 4, 24, [.one (.int .i64 0), .one (.int .i64 0), .one (.bool false), .one (.w8 0)]⟩),
  (8, ⟨.struct [(2, 0), (3, 1), (4, 2), (6, 3)], 4, 24, [.one (.int .i64 0), .one (.int .i64 0), .one (.bool false), .one (.w8 0)]⟩),
  (9, ⟨.str, 1, 16, [.one (.str [])]⟩),
  (10, ⟨.str, 1, 16, [.one (.str [])]⟩),
  (11, ⟨.str, 1, 16, [.one (.str [])]⟩),
  (12, ⟨.int .u64, 1, 8, [.one (.w64 0)]⟩),
  (13, ⟨.struct [(9, 0), (12, 1)], 2, 24, [.one (.str []), .one (.w64 0)]⟩),
  (14, ⟨.struct [(9, 0), (12, 1)], 2, 24, [.one (.str []), .one (.w64 0)]⟩),
  (15, ⟨.ptr 176, 1, 8, [.one (.ptr none)]⟩),
  (16, ⟨.ptr 179, 1, 8, [.one (.ptr none)]⟩),
  (17, ⟨.ptr 188, 1, 8, [.one (.ptr none)]⟩),
  (18, ⟨.struct [(17, 0)], 1, 8, [.one (.ptr none)]⟩),
  (19, ⟨.struct [(17, 0)], 1, 8, [.one (.ptr none)]⟩),
  (20, ⟨.ifc, 1, 16, [.one (.nilIfc)]⟩),
  (21, ⟨.int .i32, 1, 4, [.one (.int .i32 0)]⟩),
  (22, ⟨.slice 5, 1, 24, [.one (.slc none 0 0)]⟩),
  (23, ⟨.int .u16, 1, 2, [.one (.w16 0)]⟩),
  (24, ⟨.fn, 1, 8, [.one (.nilFn)]⟩),
  (25, ⟨.ptr 98, 1, 8, [.one (.ptr none)]⟩),
  (26, ⟨.fn, 1, 8, [.one (.nilFn)]⟩),
  (27, ⟨.fn, 1, 8, [.one (.nilFn)]⟩),
  (28, ⟨.array 32 5, 32, 32, [.row 32 (fun _ => .w8 0)]⟩),
  (29, ⟨.fn, 1, 8, [.one (.nilFn)]⟩),
  (30, ⟨.slice 22, 1, 24, [.one (.slc none 0 0)]⟩),
  (31, ⟨.fn, 1, 8, [.one (.nilFn)]⟩),
  (32, ⟨.fn, 1, 8, [.one (.nilFn)]⟩),
  (33, ⟨.fn, 1, 8, [.one (.nilFn)]⟩),
  (34, ⟨.fn, 1, 8, [.one (.nilFn)]⟩),
  (35, ⟨.fn, 1, 8, [.one (.nilFn)]⟩),
  (36, ⟨.array 32 5, 32, 32, [.row 32 (fun _ => .w8 0)]⟩),
  (37, ⟨.ptr 110, 1, 8, [.one (.ptr none)]⟩),
  (38, ⟨.fn, 1, 8, [.one (.nilFn)]⟩),
  (39, ⟨.int .i64, 1, 8, [.one (.int .i64 0)]⟩),
  (41, ⟨.fn, 1, 8, [.one (.nilFn)]⟩),
  (42, ⟨.fn, 1, 8, [.one (.nilFn)]⟩),
  (43, ⟨.fn, 1, 8, [.one (.nilFn)]⟩),
  (44, ⟨.fn, 1, 8, [.one (.nilFn)]⟩),
  (45, ⟨.fn, 1, 8, [.one (.nilFn)]⟩),
  (46, ⟨.fn, 1, 8, [.one (.nilFn)]⟩),
  (47, ⟨.fn, 1, 8, [.one (.nilFn)]⟩),
  (48, ⟨.fn, 1, 8, [.one (.nilFn)]⟩),
  (49, ⟨.fn, 1, 8, [.one (.nilFn)]⟩),
  (50, ⟨.fn, 1, 8, [.one (.nilFn)]⟩),
  (51, ⟨.fn, 1, 8, [.one (.nilFn)]⟩),
  (52, ⟨.array 16 5, 16, 16, [.row 16 (fun _ => .w8 0)]⟩),
  (53, ⟨.array 16 5, 16, 16, [.row 16 (fun _ => .w8 0)]⟩),
  (54, ⟨.array 12 5, 12, 12, [.row 12 (fun _ => .w8 0)]⟩),
  (55, ⟨.array 12 5, 12, 12, [.row 12 (fun _ => .w8 0)]⟩),
  (56, ⟨.ptr 117, 1, 8, [.one (.ptr none)]⟩),
  (57, ⟨.fn, 1, 8, [.one (.nilFn)]⟩),
  (58, ⟨.ptr 123, 1, 8, [.one (.ptr none)]⟩),
  (59, ⟨.fn, 1, 8, [.one (.nilFn)]⟩),
  (60, ⟨.fn, 1, 8, [.one (.nilFn)]⟩),
  (61, ⟨.fn, 1, 8, [.one (.nilFn)]⟩),
  (62, ⟨.fn, 1, 8, [.one (.nilFn)]⟩),
  (63, ⟨.fn, 1, 8, [.one (.nilFn)]⟩),
  (64, ⟨.fn, 1, 8, [.one (.nilFn)]⟩),
  (65, ⟨.ptr 72, 1, 8, [.one (.ptr none)]⟩),
  (67, ⟨.ptr 129, 1, 8, [.one (.ptr none)]⟩),
  (68, ⟨.fn, 1, 8, [.one (.nilFn)]⟩),
  (69, ⟨.fn, 1, 8, [.one (.nilFn)]⟩),
  (70, ⟨.ptr 137, 1, 8, [.one (.ptr none)]⟩),
  (71, ⟨.struct [(36, 0), (56, 32), (55, 33), (70, 45)], 46, 64, [.row 32 (fun _ => .w8 0), .one (.ptr none), .row 12 (fun _ => .w8 0), .one (.ptr none)]⟩),
  (72, ⟨.struct [(36, 0), (56, 32), (55, 33), (70, 45)], 46, 64, [.row 32 (fun _ => .w8 0), .one (.ptr none), .row 12 (fun _ => .w8 0), .one (.ptr none)]⟩),
  (73, ⟨.fn, 1, 8, [.one (.nilFn)]⟩),
  (74, ⟨.int .u64, 1, 8, [.one (.w64 0)]⟩),
  (75, ⟨.fn, 1, 8, [.one (.nilFn)]⟩),
  (76, ⟨.fn, 1, 8, [.one (.nilFn)]⟩),
  (77, ⟨.fn, 1, 8, [.one (.nilFn)]⟩),
  (78, ⟨.fn, 1, 8, [.one (.nilFn)]⟩),
  (79, ⟨.fn, 1, 8, [.one (.nilFn)]⟩),
  (80, ⟨.array 5 5, 5, 5, [.row 5 (fun _ => .w8 0)]⟩),
  (81, ⟨.fn, 1, 8, [.one (.nilFn)]⟩),
  (82, ⟨.fn, 1, 8, [.one (.nilFn)]⟩),
  (83, ⟨.struct [], 0, 0, []⟩),
  (84, ⟨.struct [], 0, 0, []⟩),
  (85, ⟨.struct [], 0, 0, []⟩),
  (86, ⟨.int .u32, 1, 4, [.one (.w32 0)]⟩),
  (87, ⟨.struct [(85, 0), (86, 0)], 1, 4, [.one (.w32 0)]⟩),
  (88, ⟨.struct [(85, 0), (86, 0)], 1, 4, [.one (.w32 0)]⟩),
  (89, ⟨.struct [(21, 0), (86, 1)], 2, 8, [.one (.int .i32 0), .one (.w32 0)]⟩),
  (90, ⟨.struct [(21, 0), (86, 1)], 2, 8, [.one (.int .i32 0), .one (.w32 0)]⟩),
  (91, ⟨.struct [(84, 0), (90, 0)], 2, 8, [.one (.int .i32 0), .one (.w32 0)]⟩),
  (92, ⟨.struct [(84, 0), (90, 0)], 2, 8, [.one (.int .i32 0), .one (.w32 0)]⟩),
  (93, ⟨.struct [(84, 0), (88, 0), (92, 1)], 3, 12, [.one (.w32 0), .one (.int .i32 0), .one (.w32 0)]⟩),
  (94, ⟨.struct [(84, 0), (88, 0), (92, 1)], 3, 12, [.one (.w32 0), .one (.int .i32 0), .one (.w32 0)]⟩),
  (95, ⟨.array 8 86, 8, 32, [.row 8 (fun _ => .w32 0)]⟩),
  (96, ⟨.array 64 86, 64, 256, [.row 64 (fun _ => .w32 0)]⟩),
  (97, ⟨.struct [(94, 0), (95, 3), (96, 11)], 75, 300, [.one (.w32 0), .one (.int .i32 0), .one (.w32 0), .row 8 (fun _ => .w32 0), .row 64 (fun _ => .w32 0)]⟩),
  (98, ⟨.struct [(94, 0), (95, 3), (96, 11)], 75, 300, [.one (.w32 0), .one (.int .i32 0), .one (.w32 0), .row 8 (fun _ => .w32 0), .row 64 (fun _ => .w32 0)]⟩),
  (99, ⟨.slice 86, 1, 24, [.one (.slc none 0 0)]⟩),
  (100, ⟨.fn, 1, 8, [.one (.nilFn)]⟩),
  (101, ⟨.fn, 1, 8, [.one (.nilFn)]⟩),
  (102, ⟨.int .u64, 1, 8, [.one (.w64 0)]⟩),
  (103, ⟨.array 64 5, 64, 64, [.row 64 (fun _ => .w8 0)]⟩),
  (104, ⟨.struct [(25, 0), (95, 1), (103, 9), (3, 73), (74, 74)], 75, 120, [.one (.ptr none), .row 8 (fun _ => .w32 0), .row 64 (fun _ => .w8 0), .one (.int .i64 0), .one (.w64 0)]⟩),
  (105, ⟨.struct [(25, 0), (95, 1), (103, 9), (3, 73), (74, 74)], 75, 120, [.one (.ptr none), .row 8 (fun _ => .w32 0), .row 64 (fun _ => .w8 0), .one (.int .i64 0), .one (.w64 0)]⟩),
  (106, ⟨.fn, 1, 8, [.one (.nilFn)]⟩),
  (107, ⟨.fn, 1, 8, [.one (.nilFn)]⟩),
  (108, ⟨.fn, 1, 8, [.one (.nilFn)]⟩),
  (109, ⟨.struct [(98, 0)], 75, 300, [.one (.w32 0), .one (.int .i32 0), .one (.w32 0), .row 8 (fun _ => .w32 0), .row 64 (fun _ => .w32 0)]⟩),
  (110, ⟨.struct [(98, 0)], 75, 300, [.one (.w32 0), .one (.int .i32 0), .one (.w32 0), .row 8 (fun _ => .w32 0), .row 64 (fun _ => .w32 0)]⟩),
  (111, ⟨.fn, 1, 8, [.one (.nilFn)]⟩),
  (112, ⟨.struct [(74, 0), (74, 1)], 2, 16, [.one (.w64 0), .one (.w64 0)]⟩),
  (113, ⟨.struct [(74, 0), (74, 1)], 2, 16, [.one (.w64 0), .one (.w64 0)]⟩),
  (114, ⟨.fn, 1, 8, [.one (.nilFn)]⟩),
  (115, ⟨.fn, 1, 8, [.one (.nilFn)]⟩),
  (116, ⟨.struct [(70, 0), (113, 1)], 3, 24, [.one (.ptr none), .one (.w64 0), .one (.w64 0)]⟩),
  (117, ⟨.struct [(70, 0), (113, 1)], 3, 24, [.one (.ptr none), .one (.w64 0), .one (.w64 0)]⟩),
  (118, ⟨.array 256 5, 256, 256, [.row 256 (fun _ => .w8 0)]⟩),
  (119, ⟨.struct [], 0, 0, []⟩),
  (120, ⟨.struct [(85, 0), (119, 0), (2, 0)], 1, 8, [.one (.int .i64 0)]⟩),
  (121, ⟨.struct [(85, 0), (119, 0), (2, 0)], 1, 8, [.one (.int .i64 0)]⟩),
  (122, ⟨.struct [(94, 0), (118, 3), (121, 259)], 260, 280, [.one (.w32 0), .one (.int .i32 0), .one (.w32 0), .row 256 (fun _ => .w8 0), .one (.int .i64 0)]⟩),
  (123, ⟨.struct [(94, 0), (118, 3), (121, 259)], 260, 280, [.one (.w32 0), .one (.int .i32 0), .one (.w32 0), .row 256 (fun _ => .w8 0), .one (.int .i64 0)]⟩),
  (124, ⟨.fn, 1, 8, [.one (.nilFn)]⟩),
  (125, ⟨.fn, 1, 8, [.one (.nilFn)]⟩),
  (126, ⟨.fn, 1, 8, [.one (.nilFn)]⟩),
  (127, ⟨.fn, 1, 8, [.one (.nilFn)]⟩),
  (128, ⟨.struct [(37, 0), (58, 1)], 2, 16, [.one (.ptr none), .one (.ptr none)]⟩),
  (129, ⟨.struct [(37, 0), (58, 1)], 2, 16, [.one (.ptr none), .one (.ptr none)]⟩),
  (130, ⟨.fn, 1, 8, [.one (.nilFn)]⟩),
  (131, ⟨.fn, 1, 8, [.one (.nilFn)]⟩),
  (132, ⟨.fn, 1, 8, [.one (.nilFn)]⟩),
  (133, ⟨.fn, 1, 8, [.one (.nilFn)]⟩),
  (134, ⟨.ptr 105, 1, 8, [.one (.ptr none)]⟩),
  (135, ⟨.array 11 53, 176, 176, [.row 176 (fun _ => .w8 0)]⟩),
  (136, ⟨.struct [(58, 0), (135, 1)], 177, 184, [.one (.ptr none), .row 176 (fun _ => .w8 0)]⟩),
  (137, ⟨.struct [(58, 0), (135, 1)], 177, 184, [.one (.ptr none), .row 176 (fun _ => .w8 0)]⟩),
  (138, ⟨.ptr 53, 1, 8, [.one (.ptr none)]⟩),
  (139, ⟨.fn, 1, 8, [.one (.nilFn)]⟩),
  (140, ⟨.fn, 1, 8, [.one (.nilFn)]⟩),
  (141, ⟨.fn, 1, 8, [.one (.nilFn)]⟩),
  (142, ⟨.fn, 1, 8, [.one (.nilFn)]⟩),
  (143, ⟨.fn, 1, 8, [.one (.nilFn)]⟩),
  (144, ⟨.fn, 1, 8, [.one (.nilFn)]⟩),
  (145, ⟨.fn, 1, 8, [.one (.nilFn)]⟩),
  (146, ⟨.ptr 94, 1, 8, [.one (.ptr none)]⟩),
  (147, ⟨.fn, 1, 8, [.one (.nilFn)]⟩),
  (148, ⟨.fn, 1, 8, [.one (.nilFn)]⟩),
  (149, ⟨.fn, 1, 8, [.one (.nilFn)]⟩),
  (150, ⟨.ptr 121, 1, 8, [.one (.ptr none)]⟩),
  (151, ⟨.fn, 1, 8, [.one (.nilFn)]⟩),
  (152, ⟨.ptr 2, 1, 8, [.one (.ptr none)]⟩),
  (153, ⟨.fn, 1, 8, [.one (.nilFn)]⟩),
  (154, ⟨.ptr 88, 1, 8, [.one (.ptr none)]⟩),
  (155, ⟨.fn, 1, 8, [.one (.nilFn)]⟩),
  (156, ⟨.ptr 86, 1, 8, [.one (.ptr none)]⟩),
  (157, ⟨.fn, 1, 8, [.one (.nilFn)]⟩),
  (159, ⟨.fn, 1, 8, [.one (.nilFn)]⟩),
  (160, ⟨.ptr 92, 1, 8, [.one (.ptr none)]⟩),
  (161, ⟨.fn, 1, 8, [.one (.nilFn)]⟩),
  (162, ⟨.fn, 1, 8, [.one (.nilFn)]⟩),
  (163, ⟨.ptr 90, 1, 8, [.one (.ptr none)]⟩),
  (164, ⟨.fn, 1, 8, [.one (.nilFn)]⟩),
  (165, ⟨.ptr 21, 1, 8, [.one (.ptr none)]⟩),
  (166, ⟨.fn, 1, 8, [.one (.nilFn)]⟩),
  (168, ⟨.fn, 1, 8, [.one (.nilFn)]⟩),
  (169, ⟨.fn, 1, 8, [.one (.nilFn)]⟩),
  (170, ⟨.fn, 1, 8, [.one (.nilFn)]⟩),
  (171, ⟨.fn, 1, 8, [.one (.nilFn)]⟩),
  (172, ⟨.fn, 1, 8, [.one (.nilFn)]⟩),
  (173, ⟨.fn, 1, 8, [.one (.nilFn)]⟩),
  (174, ⟨.fn, 1, 8, [.one (.nilFn)]⟩),
  (175, ⟨.struct [(17, 0), (17, 1), (17, 2), (9, 3)], 4, 40, [.one (.ptr none), .one (.ptr none), .one (.ptr none), .one (.str [])]⟩),
  (176, ⟨.struct [(17, 0), (17, 1), (17, 2), (9, 3)], 4, 40, [.one (.ptr none), .one (.ptr none), .one (.ptr none), .one (.str [])]⟩),
  (177, ⟨.array 0 16, 0, 0, [.row 0 (fun _ => .ptr none)]⟩),
  (178, ⟨.struct [(177, 0)], 0, 0, [.row 0 (fun _ => .ptr none)]⟩),
  (179, ⟨.struct [(177, 0)], 0, 0, [.row 0 (fun _ => .ptr none)]⟩),
  (180, ⟨.fn, 1, 8, [.one (.nilFn)]⟩),
  (181, ⟨.int .u8, 1, 1, [.one (.w8 0)]⟩),
  (182, ⟨.int .u8, 1, 1, [.one (.w8 0)]⟩),
  (183, ⟨.fn, 1, 8, [.one (.nilFn)]⟩),
  (184, ⟨.ptr 5, 1, 8, [.one (.ptr none)]⟩),
  (185, ⟨.int .i32, 1, 4, [.one (.int .i32 0)]⟩),
  (186, ⟨.int .i32, 1, 4, [.one (.int .i32 0)]⟩),
  (187, ⟨.struct [(12, 0), (12, 1), (86, 2), (181, 3), (5, 4), (5, 5), (182, 6), (183, 7), (184, 8), (185, 9), (186, 10)], 11, 48, [.one (.w64 0), .one (.w64 0), .one (.w32 0), .one (.w8 0), .one (.w8 0), .one (.w8 0), .one (.w8 0), .one (.nilFn), .one (.ptr none), .one (.int .i32 0), .one (.int .i32 0)]⟩),
  (188, ⟨.struct [(12, 0), (12, 1), (86, 2), (181, 3), (5, 4), (5, 5), (182, 6), (183, 7), (184, 8), (185, 9), (186, 10)], 11, 48, [.one (.w64 0), .one (.w64 0), .one (.w32 0), .one (.w8 0), .one (.w8 0), .one (.w8 0), .one (.w8 0), .one (.nilFn), .one (.ptr none), .one (.int .i32 0), .one (.int .i32 0)]⟩)]
theorem td_1 : TdOk Try.prog 1 ⟨.fn, 1, 8, [.one (.nilFn)]⟩ := ⟨by kernel_rfl, show _ = _ by kernel_rfl, by kernel_rfl, by kernel_rfl, by kernel_rfl⟩
theorem td_2 : TdOk Try.prog 2 ⟨.int .i64, 1, 8, [.one (.int .i64 0)]⟩ := ⟨by kernel_rfl, show _ = _ by kernel_rfl, by kernel_rfl, by kernel_rfl, by kernel_rfl⟩
theorem td_3 : TdOk Try.prog 3 ⟨.int .i64, 1, 8, [.one (.int .i64 0)]⟩ := ⟨by kernel_rfl, show _ = _ by kernel_rfl, by kernel_rfl, by kernel_rfl, by kernel_rfl⟩
theorem td_4 : TdOk Try.prog 4 ⟨.bool, 1, 1, [.one (.bool false)]⟩ := ⟨by kernel_rfl, show _ = _ by kernel_rfl, by kernel_rfl, by kernel_rfl, by kernel_rfl⟩
theorem td_5 : TdOk Try.prog 5 ⟨.int .u8, 1, 1, [.one (.w8 0)]⟩ := ⟨by kernel_rfl, show _ = _ by kernel_rfl, by kernel_rfl, by kernel_rfl, by kernel_rfl⟩
theorem td_6 : TdOk Try.prog 6 ⟨.int .u8, 1, 1, [.one (.w8 0)]⟩ := ⟨by kernel_rfl, show _ = _ by kernel_rfl, by kernel_rfl, by kernel_rfl, by kernel_rfl⟩
theorem td_7 : TdOk Try.prog 7 ⟨.struct [(2, 0), (3, 1), (4, 2), (6, 3)], 4, 24, [.one (.int .i64 0), .one (.int .i64 0), .one (.bool false), .one (.w8 0)]⟩ := ⟨by kernel_rfl, show _ = _ by kernel_rfl, by kernel_rfl, by kernel_rfl, by kernel_rfl⟩
theorem td_8 : TdOk Try.prog 8 ⟨.struct [(2, 0), (3, 1), (4, 2), (6, 3)], 4, 24, [.one (.int .i64 0), .one (.int .i64 0), .one (.bool false), .one (.w8 0)]⟩ := ⟨by kernel_rfl, show _ = _ by kernel_rfl, by kernel_rfl, by kernel_rfl, by kernel_rfl⟩
theorem td_9 : TdOk Try.prog 9 ⟨.str, 1, 16, [.one (.str [])]⟩ := ⟨by kernel_rfl, show _ = _ by kernel_rfl, by kernel_rfl, by kernel_rfl, by kernel_rfl⟩
theorem td_10 : TdOk Try.prog 10 ⟨.str, 1, 16, [.one (.str [])]⟩ := ⟨by kernel_rfl, show _ = _ by kernel_rfl, by kernel_rfl, by kernel_rfl, by kernel_rfl⟩
theorem td_11 : TdOk Try.prog 11 ⟨.str, 1, 16, [.one (.str [])]⟩ := ⟨by kernel_rfl, show _ = _ by kernel_rfl, by kernel_rfl, by kernel_rfl, by kernel_rfl⟩
theorem td_12 : TdOk Try.prog 12 ⟨.int .u64, 1, 8, [.one (.w64 0)]⟩ := ⟨by kernel_rfl, show _ = _ by kernel_rfl, by kernel_rfl, by kernel_rfl, by kernel_rfl⟩
theorem td_13 : TdOk Try.prog 13 ⟨.struct [(9, 0), (12, 1)], 2, 24, [.one (.str []), .one (.w64 0)]⟩ := ⟨by kernel_rfl, show _ = _ by kernel_rfl, by kernel_rfl, by kernel_rfl, by kernel_rfl⟩
theorem td_14 : TdOk Try.prog 14 ⟨.struct [(9, 0), (12, 1)], 2, 24, [.one (.str []), .one (.w64 0)]⟩ := ⟨by kernel_rfl, show _ = _ by kernel_rfl, by kernel_rfl, by kernel_rfl, by kernel_rfl⟩
theorem td_15 : TdOk Try.prog 15 ⟨.ptr 176, 1, 8, [.one (.ptr none)]⟩ := ⟨by kernel_rfl, show _ = _ by kernel_rfl, by kernel_rfl, by kernel_rfl, by kernel_rfl⟩
theorem td_16 : TdOk Try.prog 16 ⟨.ptr 179, 1, 8, [.one (.ptr none)]⟩ := ⟨by kernel_rfl, show _ = _ by kernel_rfl, by kernel_rfl, by kernel_rfl, by kernel_rfl⟩
theorem td_17 : TdOk Try.prog 17 ⟨.ptr 188, 1, 8, [.one (.ptr none)]⟩ := ⟨by kernel_rfl, show _ = _ by kernel_rfl, by kernel_rfl, by kernel_rfl, by kernel_rfl⟩
theorem td_18 : TdOk Try.prog 18 ⟨.struct [(17, 0)], 1, 8, [.one (.ptr none)]⟩ := ⟨by kernel_rfl, show _ = _ by kernel_rfl, by kernel_rfl, by kernel_rfl, by kernel_rfl⟩
theorem td_19 : TdOk Try.prog 19 ⟨.struct [(17, 0)], 1, 8, [.one (.ptr none)]⟩ := ⟨by kernel_rfl, show _ = _ by kernel_rfl, by kernel_rfl, by kernel_rfl, by kernel_rfl⟩
theorem td_20 : TdOk Try.prog 20 ⟨.ifc, 1, 16, [.one (.nilIfc)]⟩ := ⟨by kernel_rfl, show _ = _ by kernel_rfl, by kernel_rfl, by kernel_rfl, by kernel_rfl⟩
theorem td_21 : TdOk Try.prog 21 ⟨.int .i32, 1, 4, [.one (.int .i32 0)]⟩ := ⟨by kernel_rfl, show _ = _ by kernel_rfl, by kernel_rfl, by kernel_rfl, by kernel_rfl⟩
theorem td_22 : TdOk Try.prog 22 ⟨.slice 5, 1, 24, [.one (.slc none 0 0)]⟩ := ⟨by kernel_rfl, show _ = _ by kernel_rfl, by kernel_rfl, by kernel_rfl, by kernel_rfl⟩
theorem td_23 : TdOk Try.prog 23 ⟨.int .u16, 1, 2, [.one (.w16 0)]⟩ := ⟨by kernel_rfl, show _ = _ by kernel_rfl, by kernel_rfl, by kernel_rfl, by kernel_rfl⟩
theorem td_24 : TdOk Try.prog 24 ⟨.fn, 1, 8, [.one (.nilFn)]⟩ := ⟨by kernel_rfl, show _ = _ by kernel_rfl, by kernel_rfl, by kernel_rfl, by kernel_rfl⟩
theorem td_25 : TdOk Try.prog 25 ⟨.ptr 98, 1, 8, [.one (.ptr none)]⟩ := ⟨by kernel_rfl, show _ = _ by kernel_rfl, by kernel_rfl, by kernel_rfl, by kernel_rfl⟩
theorem td_26 : TdOk Try.prog 26 ⟨.fn, 1, 8, [.one (.nilFn)]⟩ := ⟨by kernel_rfl, show _ = _ by kernel_rfl, by kernel_rfl, by kernel_rfl, by kernel_rfl⟩
theorem td_27 : TdOk Try.prog 27 ⟨.fn, 1, 8, [.one (.nilFn)]⟩ := ⟨by kernel_rfl, show _ = _ by kernel_rfl, by kernel_rfl, by kernel_rfl, by kernel_rfl⟩
theorem td_28 : TdOk Try.prog 28 ⟨.array 32 5, 32, 32, [.row 32 (fun _ => .w8 0)]⟩ := ⟨by kernel_rfl, show _ = _ by kernel_rfl, by kernel_rfl, by kernel_rfl, by kernel_rfl⟩
theorem td_29 : TdOk Try.prog 29 ⟨.fn, 1, 8, [.one (.nilFn)]⟩ := ⟨by kernel_rfl, show _ = _ by kernel_rfl, by kernel_rfl, by kernel_rfl, by kernel_rfl⟩
theorem td_30 : TdOk Try.prog 30 ⟨.slice 22, 1, 24, [.one (.slc none 0 0)]⟩ := ⟨by kernel_rfl, show _ = _ by kernel_rfl, by kernel_rfl, by kernel_rfl, by kernel_rfl⟩
theorem td_31 : TdOk Try.prog 31 ⟨.fn, 1, 8, [.one (.nilFn)]⟩ := ⟨by kernel_rfl, show _ = _ by kernel_rfl, by kernel_rfl, by kernel_rfl, by kernel_rfl⟩
theorem td_32 : TdOk Try.prog 32 ⟨.fn, 1, 8, [.one (.nilFn)]⟩ := ⟨by kernel_rfl, show _ = _ by kernel_rfl, by kernel_rfl, by kernel_rfl, by kernel_rfl⟩
theorem td_33 : TdOk Try.prog 33 ⟨.fn, 1, 8, [.one (.nilFn)]⟩ := ⟨by kernel_rfl, show _ = _ by kernel_rfl, by kernel_rfl, by kernel_rfl, by kernel_rfl⟩
theorem td_34 : TdOk Try.prog 34 ⟨.fn, 1, 8, [.one (.nilFn)]⟩ := ⟨by kernel_rfl, show _ = _ by kernel_rfl, by kernel_rfl, by kernel_rfl, by kernel_rfl⟩
theorem td_35 : TdOk Try.prog 35 ⟨.fn, 1, 8, [.one (.nilFn)]⟩ := ⟨by kernel_rfl, show _ = _ by kernel_rfl, by kernel_rfl, by kernel_rfl, by kernel_rfl⟩
theorem td_36 : TdOk Try.prog 36 ⟨.array 32 5, 32, 32, [.row 32 (fun _ => .w8 0)]⟩ := ⟨by kernel_rfl, show _ = _ by kernel_rfl, by kernel_rfl, by kernel_rfl, by kernel_rfl⟩
theorem td_37 : TdOk Try.prog 37 ⟨.ptr 110, 1, 8, [.one (.ptr none)]⟩ := ⟨by kernel_rfl, show _ = _ by kernel_rfl, by kernel_rfl, by kernel_rfl, by kernel_rfl⟩
theorem td_38 : TdOk Try.prog 38 ⟨.fn, 1, 8, [.one (.nilFn)]⟩ := ⟨by kernel_rfl, show _ = _ by kernel_rfl, by kernel_rfl, by kernel_rfl, by kernel_rfl⟩
theorem td_39 : TdOk Try.prog 39 ⟨.int .i64, 1, 8, [.one (.int .i64 0)]⟩ := ⟨by kernel_rfl, show _ = _ by kernel_rfl, by kernel_rfl, by kernel_rfl, by kernel_rfl⟩
theorem td_41 : TdOk Try.prog 41 ⟨.fn, 1, 8, [.one (.nilFn)]⟩ := ⟨by kernel_rfl, show _ = _ by kernel_rfl, by kernel_rfl, by kernel_rfl, by kernel_rfl⟩
theorem td_42 : TdOk Try.prog 42 ⟨.fn, 1, 8, [.one (.nilFn)]⟩ := ⟨by kernel_rfl, show _ = _ by kernel_rfl, by kernel_rfl, by kernel_rfl, by kernel_rfl⟩
theorem td_43 : TdOk Try.prog 43 ⟨.fn, 1, 8, [.one (.nilFn)]⟩ := ⟨by kernel_rfl, show _ = _ by kernel_rfl, by kernel_rfl, by kernel_rfl, by kernel_rfl⟩
theorem td_44 : TdOk Try.prog 44 ⟨.fn, 1, 8, [.one (.nilFn)]⟩ := ⟨by kernel_rfl, show _ = _ by kernel_rfl, by kernel_rfl, by kernel_rfl, by kernel_rfl⟩
theorem td_45 : TdOk Try.prog 45 ⟨.fn, 1, 8, [.one (.nilFn)]⟩ := ⟨by kernel_rfl, show _ = _ by kernel_rfl, by kernel_rfl, by kernel_rfl, by kernel_rfl⟩
theorem td_46 : TdOk Try.prog 46 ⟨.fn, 1, 8, [.one (.nilFn)]⟩ := ⟨by kernel_rfl, show _ = _ by kernel_rfl, by kernel_rfl, by kernel_rfl, by kernel_rfl⟩
theorem td_47 : TdOk Try.prog 47 ⟨.fn, 1, 8, [.one (.nilFn)]⟩ := ⟨by kernel_rfl, show _ = _ by kernel_rfl, by kernel_rfl, by kernel_rfl, by kernel_rfl⟩
theorem td_48 : TdOk Try.prog 48 ⟨.fn, 1, 8, [.one (.nilFn)]⟩ := ⟨by kernel_rfl, show _ = _ by kernel_rfl, by kernel_rfl, by kernel_rfl, by kernel_rfl⟩
theorem td_49 : TdOk Try.prog 49 ⟨.fn, 1, 8, [.one (.nilFn)]⟩ := ⟨by kernel_rfl, show _ = _ by kernel_rfl, by kernel_rfl, by kernel_rfl, by kernel_rfl⟩
theorem td_50 : TdOk Try.prog 50 ⟨.fn, 1, 8, [.one (.nilFn)]⟩ := ⟨by kernel_rfl, show _ = _ by kernel_rfl, by kernel_rfl, by kernel_rfl, by kernel_rfl⟩
theorem td_51 : TdOk Try.prog 51 ⟨.fn, 1, 8, [.one (.nilFn)]⟩ := ⟨by kernel_rfl, show _ = _ by kernel_rfl, by kernel_rfl, by kernel_rfl, by kernel_rfl⟩
theorem td_52 : TdOk Try.prog 52 ⟨.array 16 5, 16, 16, [.row 16 (fun _ => .w8 0)]⟩ := ⟨by kernel_rfl, show _ = _ by kernel_rfl, by kernel_rfl, by kernel_rfl, by kernel_rfl⟩
theorem td_53 : TdOk Try.prog 53 ⟨.array 16 5, 16, 16, [.row 16 (fun _ => .w8 0)]⟩ := ⟨by kernel_rfl, show _ = _ by kernel_rfl, by kernel_rfl, by kernel_rfl, by kernel_rfl⟩
theorem td_54 : TdOk Try.prog 54 ⟨.array 12 5, 12, 12, [.row 12 (fun _ => .w8 0)]⟩ := ⟨by kernel_rfl, show _ = _ by kernel_rfl, by kernel_rfl, by kernel_rfl, by kernel_rfl⟩
theorem td_55 : TdOk Try.prog 55 ⟨.array 12 5, 12, 12, [.row 12 (fun _ => .w8 0)]⟩ := ⟨by kernel_rfl, show _ = _ by kernel_rfl, by kernel_rfl, by kernel_rfl, by kernel_rfl⟩
theorem td_56 : TdOk Try.prog 56 ⟨.ptr 117, 1, 8, [.one (.ptr none)]⟩ := ⟨by kernel_rfl, show _ = _ by kernel_rfl, by kernel_rfl, by kernel_rfl, by kernel_rfl⟩
theorem td_57 : TdOk Try.prog 57 ⟨.fn, 1, 8, [.one (.nilFn)]⟩ := ⟨by kernel_rfl, show _ = _ by kernel_rfl, by kernel_rfl, by kernel_rfl, by kernel_rfl⟩
theorem td_58 : TdOk Try.prog 58 ⟨.ptr 123, 1, 8, [.one (.ptr none)]⟩ := ⟨by kernel_rfl, show _ = _ by kernel_rfl, by kernel_rfl, by kernel_rfl, by kernel_rfl⟩
theorem td_59 : TdOk Try.prog 59 ⟨.fn, 1, 8, [.one (.nilFn)]⟩ := ⟨by kernel_rfl, show _ = _ by kernel_rfl, by kernel_rfl, by kernel_rfl, by kernel_rfl⟩
theorem td_60 : TdOk Try.prog 60 ⟨.fn, 1, 8, [.one (.nilFn)]⟩ := ⟨by kernel_rfl, show _ = _ by kernel_rfl, by kernel_rfl, by kernel_rfl, by kernel_rfl⟩
theorem td_61 : TdOk Try.prog 61 ⟨.fn, 1, 8, [.one (.nilFn)]⟩ := ⟨by kernel_rfl, show _ = _ by kernel_rfl, by kernel_rfl, by kernel_rfl, by kernel_rfl⟩
theorem td_62 : TdOk Try.prog 62 ⟨.fn, 1, 8, [.one (.nilFn)]⟩ := ⟨by kernel_rfl, show _ = _ by kernel_rfl, by kernel_rfl, by kernel_rfl, by kernel_rfl⟩
theorem td_63 : TdOk Try.prog 63 ⟨.fn, 1, 8, [.one (.nilFn)]⟩ := ⟨by kernel_rfl, show _ = _ by kernel_rfl, by kernel_rfl, by kernel_rfl, by kernel_rfl⟩
theorem td_64 : TdOk Try.prog 64 ⟨.fn, 1, 8, [.one (.nilFn)]⟩ := ⟨by kernel_rfl, show _ = _ by kernel_rfl, by kernel_rfl, by kernel_rfl, by kernel_rfl⟩
theorem td_65 : TdOk Try.prog 65 ⟨.ptr 72, 1, 8, [.one (.ptr none)]⟩ := ⟨by kernel_rfl, show _ = _ by kernel_rfl, by kernel_rfl, by kernel_rfl, by kernel_rfl⟩
theorem td_67 : TdOk Try.prog 67 ⟨.ptr 129, 1, 8, [.one (.ptr none)]⟩ := ⟨by kernel_rfl, show _ = _ by kernel_rfl, by kernel_rfl, by kernel_rfl, by kernel_rfl⟩
theorem td_68 : TdOk Try.prog 68 ⟨.fn, 1, 8, [.one (.nilFn)]⟩ := ⟨by kernel_rfl, show _ = _ by kernel_rfl, by kernel_rfl, by kernel_rfl, by kernel_rfl⟩
theorem td_69 : TdOk Try.prog 69 ⟨.fn, 1, 8, [.one (.nilFn)]⟩ := ⟨by kernel_rfl, show _ = _ by kernel_rfl, by kernel_rfl, by kernel_rfl, by kernel_rfl⟩
theorem td_70 : TdOk Try.prog 70 ⟨.ptr 137, 1, 8, [.one (.ptr none)]⟩ := ⟨by kernel_rfl, show _ = _ by kernel_rfl, by kernel_rfl, by kernel_rfl, by kernel_rfl⟩
theorem td_71 : TdOk Try.prog 71 ⟨.struct [(36, 0), (56, 32), (55, 33), (70, 45)], 46, 64, [.row 32 (fun _ => .w8 0), .one (.ptr none), .row 12 (fun _ => .w8 0), .one (.ptr none)]⟩ := ⟨by kernel_rfl, show _ = _ by kernel_rfl, by kernel_rfl, by kernel_rfl, by kernel_rfl⟩
theorem td_72 : TdOk Try.prog 72 ⟨.struct [(36, 0), (56, 32), (55, 33), (70, 45)], 46, 64, [.row 32 (fun _ => .w8 0), .one (.ptr none), .row 12 (fun _ => .w8 0), .one (.ptr none)]⟩ := ⟨by kernel_rfl, show _ = _ by kernel_rfl, by kernel_rfl, by kernel_rfl, by kernel_rfl⟩
theorem td_73 : TdOk Try.prog 73 ⟨.fn, 1, 8, [.one (.nilFn)]⟩ := ⟨by kernel_rfl, show _ = _ by kernel_rfl, by kernel_rfl, by kernel_rfl, by kernel_rfl⟩
theorem td_74 : TdOk Try.prog 74 ⟨.int .u64, 1, 8, [.one (.w64 0)]⟩ := ⟨by kernel_rfl, show _ = _ by kernel_rfl, by kernel_rfl, by kernel_rfl, by kernel_rfl⟩
theorem td_75 : TdOk Try.prog 75 ⟨.fn, 1, 8, [.one (.nilFn)]⟩ := ⟨by kernel_rfl, show _ = _ by kernel_rfl, by kernel_rfl, by kernel_rfl, by kernel_rfl⟩
theorem td_76 : TdOk Try.prog 76 ⟨.fn, 1, 8, [.one (.nilFn)]⟩ := ⟨by kernel_rfl, show _ = _ by kernel_rfl, by kernel_rfl, by kernel_rfl, by kernel_rfl⟩
theorem td_77 : TdOk Try.prog 77 ⟨.fn, 1, 8, [.one (.nilFn)]⟩ := ⟨by kernel_rfl, show _ = _ by kernel_rfl, by kernel_rfl, by kernel_rfl, by kernel_rfl⟩
theorem td_78 : TdOk Try.prog 78 ⟨.fn, 1, 8, [.one (.nilFn)]⟩ := ⟨by kernel_rfl, show _ = _ by kernel_rfl, by kernel_rfl, by kernel_rfl, by kernel_rfl⟩
theorem td_79 : TdOk Try.prog 79 ⟨.fn, 1, 8, [.one (.nilFn)]⟩ := ⟨by kernel_rfl, show _ = _ by kernel_rfl, by kernel_rfl, by kernel_rfl, by kernel_rfl⟩
theorem td_80 : TdOk Try.prog 80 ⟨.array 5 5, 5, 5, [.row 5 (fun _ => .w8 0)]⟩ := ⟨by kernel_rfl, show _ = _ by kernel_rfl, by kernel_rfl, by kernel_rfl, by kernel_rfl⟩
theorem td_81 : TdOk Try.prog 81 ⟨.fn, 1, 8, [.one (.nilFn)]⟩ := ⟨by kernel_rfl, show _ = _ by kernel_rfl, by kernel_rfl, by kernel_rfl, by kernel_rfl⟩
theorem td_82 : TdOk Try.prog 82 ⟨.fn, 1, 8, [.one (.nilFn)]⟩ := ⟨by kernel_rfl, show _ = _ by kernel_rfl, by kernel_rfl, by kernel_rfl, by kernel_rfl⟩
theorem td_83 : TdOk Try.prog 83 ⟨.struct [], 0, 0, []⟩ := ⟨by kernel_rfl, show _ = _ by kernel_rfl, by kernel_rfl, by kernel_rfl, by kernel_rfl⟩
theorem td_84 : TdOk Try.prog 84 ⟨.struct [], 0, 0, []⟩ := ⟨by kernel_rfl, show _ = _ by kernel_rfl, by kernel_rfl, by kernel_rfl, by kernel_rfl⟩
theorem td_85 : TdOk Try.prog 85 ⟨.struct [], 0, 0, []⟩ := ⟨by kernel_rfl, show _ = _ by kernel_rfl, by kernel_rfl, by kernel_rfl, by kernel_rfl⟩
theorem td_86 : TdOk Try.prog 86 ⟨.int .u32, 1, 4, [.one (.w32 0)]⟩ := ⟨by kernel_rfl, show _ = _ by kernel_rfl, by kernel_rfl, by kernel_rfl, by kernel_rfl⟩
theorem td_87 : TdOk Try.prog 87 ⟨.struct [(85, 0), (86, 0)], 1, 4, [.one (.w32 0)]⟩ := ⟨by kernel_rfl, show _ = _ by kernel_rfl, by kernel_rfl, by kernel_rfl, by kernel_rfl⟩
theorem td_88 : TdOk Try.prog 88 ⟨.struct [(85, 0), (86, 0)], 1, 4, [.one (.w32 0)]⟩ := ⟨by kernel_rfl, show _ = _ by kernel_rfl, by kernel_rfl, by kernel_rfl, by kernel_rfl⟩
theorem td_89 : TdOk Try.prog 89 ⟨.struct [(21, 0), (86, 1)], 2, 8, [.one (.int .i32 0), .one (.w32 0)]⟩ := ⟨by kernel_rfl, show _ = _ by kernel_rfl, by kernel_rfl, by kernel_rfl, by kernel_rfl⟩
theorem td_90 : TdOk Try.prog 90 ⟨.struct [(21, 0), (86, 1)], 2, 8, [.one (.int .i32 0), .one (.w32 0)]⟩ := ⟨by kernel_rfl, show _ = _ by kernel_rfl, by kernel_rfl, by kernel_rfl, by kernel_rfl⟩
theorem td_91 : TdOk Try.prog 91 ⟨.struct [(84, 0), (90, 0)], 2, 8, [.one (.int .i32 0), .one (.w32 0)]⟩ := ⟨by kernel_rfl, show _ = _ by kernel_rfl, by kernel_rfl, by kernel_rfl, by kernel_rfl⟩
theorem td_92 : TdOk Try.prog 92 ⟨.struct [(84, 0), (90, 0)], 2, 8, [.one (.int .i32 0), .one (.w32 0)]⟩ := ⟨by kernel_rfl, show _ = _ by kernel_rfl, by kernel_rfl, by kernel_rfl, by kernel_rfl⟩
theorem td_93 : TdOk Try.prog 93 ⟨.struct [(84, 0), (88, 0), (92, 1)], 3, 12, [.one (.w32 0), .one (.int .i32 0), .one (.w32 0)]⟩ := ⟨by kernel_rfl, show _ = _ by kernel_rfl, by kernel_rfl, by kernel_rfl, by kernel_rfl⟩
theorem td_94 : TdOk Try.prog 94 ⟨.struct [(84, 0), (88, 0), (92, 1)], 3, 12, [.one (.w32 0), .one (.int .i32 0), .one (.w32 0)]⟩ := ⟨by kernel_rfl, show _ = _ by kernel_rfl, by kernel_rfl, by kernel_rfl, by kernel_rfl⟩
theorem td_95 : TdOk Try.prog 95 ⟨.array 8 86, 8, 32, [.row 8 (fun _ => .w32 0)]⟩ := ⟨by kernel_rfl, show _ = _ by kernel_rfl, by kernel_rfl, by kernel_rfl, by kernel_rfl⟩
theorem td_96 : TdOk Try.prog 96 ⟨.array 64 86, 64, 256, [.row 64 (fun _ => .w32 0)]⟩ := ⟨by kernel_rfl, show _ = _ by kernel_rfl, by kernel_rfl, by kernel_rfl, by kernel_rfl⟩
theorem td_97 : TdOk Try.prog 97 ⟨.struct [(94, 0), (95, 3), (96, 11)], 75, 300, [.one (.w32 0), .one (.int .i32 0), .one (.w32 0), .row 8 (fun _ => .w32 0), .row 64 (fun _ => .w32 0)]⟩ := ⟨by kernel_rfl, show _ = _ by kernel_rfl, by kernel_rfl, by kernel_rfl, by kernel_rfl⟩
theorem td_98 : TdOk Try.prog 98 ⟨.struct [(94, 0), (95, 3), (96, 11)], 75, 300, [.one (.w32 0), .one (.int .i32 0), .one (.w32 0), .row 8 (fun _ => .w32 0), .row 64 (fun _ => .w32 0)]⟩ := ⟨by kernel_rfl, show _ = _ by kernel_rfl, by kernel_rfl, by kernel_rfl, by kernel_rfl⟩
theorem td_99 : TdOk Try.prog 99 ⟨.slice 86, 1, 24, [.one (.slc none 0 0)]⟩ := ⟨by kernel_rfl, show _ = _ by kernel_rfl, by kernel_rfl, by kernel_rfl, by kernel_rfl⟩
theorem td_100 : TdOk Try.prog 100 ⟨.fn, 1, 8, [.one (.nilFn)]⟩ := ⟨by kernel_rfl, show _ = _ by kernel_rfl, by kernel_rfl, by kernel_rfl, by kernel_rfl⟩
theorem td_101 : TdOk Try.prog 101 ⟨.fn, 1, 8, [.one (.nilFn)]⟩ := ⟨by kernel_rfl, show _ = _ by kernel_rfl, by kernel_rfl, by kernel_rfl, by kernel_rfl⟩
theorem td_102 : TdOk Try.prog 102 ⟨.int .u64, 1, 8, [.one (.w64 0)]⟩ := ⟨by kernel_rfl, show _ = _ by kernel_rfl, by kernel_rfl, by kernel_rfl, by kernel_rfl⟩
theorem td_103 : TdOk Try.prog 103 ⟨.array 64 5, 64, 64, [.row 64 (fun _ => .w8 0)]⟩ := ⟨by kernel_rfl, show _ = _ by kernel_rfl, by kernel_rfl, by kernel_rfl, by kernel_rfl⟩
theorem td_104 : TdOk Try.prog 104 ⟨.struct [(25, 0), (95, 1), (103, 9), (3, 73), (74, 74)], 75, 120, [.one (.ptr none), .row 8 (fun _ => .w32 0), .row 64 (fun _ => .w8 0), .one (.int .i64 0), .one (.w64 0)]⟩ := ⟨by kernel_rfl, show _ = _ by kernel_rfl, by kernel_rfl, by kernel_rfl, by kernel_rfl⟩
theorem td_105 : TdOk Try.prog 105 ⟨.struct [(25, 0), (95, 1), (103, 9), (3, 73), (74, 74)], 75, 120, [.one (.ptr none), .row 8 (fun _ => .w32 0), .row 64 (fun _ => .w8 0), .one (.int .i64 0), .one (.w64 0)]⟩ := ⟨by kernel_rfl, show _ = _ by kernel_rfl, by kernel_rfl, by kernel_rfl, by kernel_rfl⟩
theorem td_106 : TdOk Try.prog 106 ⟨.fn, 1, 8, [.one (.nilFn)]⟩ := ⟨by kernel_rfl, show _ = _ by kernel_rfl, by kernel_rfl, by kernel_rfl, by kernel_rfl⟩
theorem td_107 : TdOk Try.prog 107 ⟨.fn, 1, 8, [.one (.nilFn)]⟩ := ⟨by kernel_rfl, show _ = _ by kernel_rfl, by kernel_rfl, by kernel_rfl, by kernel_rfl⟩
theorem td_108 : TdOk Try.prog 108 ⟨.fn, 1, 8, [.one (.nilFn)]⟩ := ⟨by kernel_rfl, show _ = _ by kernel_rfl, by kernel_rfl, by kernel_rfl, by kernel_rfl⟩
theorem td_109 : TdOk Try.prog 109 ⟨.struct [(98, 0)], 75, 300, [.one (.w32 0), .one (.int .i32 0), .one (.w32 0), .row 8 (fun _ => .w32 0), .row 64 (fun _ => .w32 0)]⟩ := ⟨by kernel_rfl, show _ = _ by kernel_rfl, by kernel_rfl, by kernel_rfl, by kernel_rfl⟩
theorem td_110 : TdOk Try.prog 110 ⟨.struct [(98, 0)], 75, 300, [.one (.w32 0), .one (.int .i32 0), .one (.w32 0), .row 8 (fun _ => .w32 0), .row 64 (fun _ => .w32 0)]⟩ := ⟨by kernel_rfl, show _ = _ by kernel_rfl, by kernel_rfl, by kernel_rfl, by kernel_rfl⟩
theorem td_111 : TdOk Try.prog 111 ⟨.fn, 1, 8, [.one (.nilFn)]⟩ := ⟨by kernel_rfl, show _ = _ by kernel_rfl, by kernel_rfl, by kernel_rfl, by kernel_rfl⟩
theorem td_112 : TdOk Try.prog 112 ⟨.struct [(74, 0), (74, 1)], 2, 16, [.one (.w64 0), .one (.w64 0)]⟩ := ⟨by kernel_rfl, show _ = _ by kernel_rfl, by kernel_rfl, by kernel_rfl, by kernel_rfl⟩
theorem td_113 : TdOk Try.prog 113 ⟨.struct [(74, 0), (74, 1)], 2, 16, [.one (.w64 0), .one (.w64 0)]⟩ := ⟨by kernel_rfl, show _ = _ by kernel_rfl, by kernel_rfl, by kernel_rfl, by kernel_rfl⟩
theorem td_114 : TdOk Try.prog 114 ⟨.fn, 1, 8, [.one (.nilFn)]⟩ := ⟨by kernel_rfl, show _ = _ by kernel_rfl, by kernel_rfl, by kernel_rfl, by kernel_rfl⟩
theorem td_115 : TdOk Try.prog 115 ⟨.fn, 1, 8, [.one (.nilFn)]⟩ := ⟨by kernel_rfl, show _ = _ by kernel_rfl, by kernel_rfl, by kernel_rfl, by kernel_rfl⟩
theorem td_116 : TdOk Try.prog 116 ⟨.struct [(70, 0), (113, 1)], 3, 24, [.one (.ptr none), .one (.w64 0), .one (.w64 0)]⟩ := ⟨by kernel_rfl, show _ = _ by kernel_rfl, by kernel_rfl, by kernel_rfl, by kernel_rfl⟩
theorem td_117 : TdOk Try.prog 117 ⟨.struct [(70, 0), (113, 1)], 3, 24, [.one (.ptr none), .one (.w64 0), .one (.w64 0)]⟩ := ⟨by kernel_rfl, show _ = _ by kernel_rfl, by kernel_rfl, by kernel_rfl, by kernel_rfl⟩
theorem td_118 : TdOk Try.prog 118 ⟨.array 256 5, 256, 256, [.row 256 (fun _ => .w8 0)]⟩ := ⟨by kernel_rfl, show _ = _ by kernel_rfl, by kernel_rfl, by kernel_rfl, by kernel_rfl⟩
theorem td_119 : TdOk Try.prog 119 ⟨.struct [], 0, 0, []⟩ := ⟨by kernel_rfl, show _ = _ by kernel_rfl, by kernel_rfl, by kernel_rfl, by kernel_rfl⟩
theorem td_120 : TdOk Try.prog 120 ⟨.struct [(85, 0), (119, 0), (2, 0)], 1, 8, [.one (.int .i64 0)]⟩ := ⟨by kernel_rfl, show _ = _ by kernel_rfl, by kernel_rfl, by kernel_rfl, by kernel_rfl⟩
theorem td_121 : TdOk Try.prog 121 ⟨.struct [(85, 0), (119, 0), (2, 0)], 1, 8, [.one (.int .i64 0)]⟩ := ⟨by kernel_rfl, show _ = _ by kernel_rfl, by kernel_rfl, by kernel_rfl, by kernel_rfl⟩
theorem td_122 : TdOk Try.prog 122 ⟨.struct [(94, 0), (118, 3), (121, 259)], 260, 280, [.one (.w32 0), .one (.int .i32 0), .one (.w32 0), .row 256 (fun _ => .w8 0), .one (.int .i64 0)]⟩ := ⟨by kernel_rfl, show _ = _ by kernel_rfl, by kernel_rfl, by kernel_rfl, by kernel_rfl⟩
theorem td_123 : TdOk Try.prog 123 ⟨.struct [(94, 0), (118, 3), (121, 259)], 260, 280, [.one (.w32 0), .one (.int .i32 0), .one (.w32 0), .row 256 (fun _ => .w8 0), .one (.int .i64 0)]⟩ := ⟨by kernel_rfl, show _ = _ by kernel_rfl, by kernel_rfl, by kernel_rfl, by kernel_rfl⟩
theorem td_124 : TdOk Try.prog 124 ⟨.fn, 1, 8, [.one (.nilFn)]⟩ := ⟨by kernel_rfl, show _ = _ by kernel_rfl, by kernel_rfl, by kernel_rfl, by kernel_rfl⟩
theorem td_125 : TdOk Try.prog 125 ⟨.fn, 1, 8, [.one (.nilFn)]⟩ := ⟨by kernel_rfl, show _ = _ by kernel_rfl, by kernel_rfl, by kernel_rfl, by kernel_rfl⟩
theorem td_126 : TdOk Try.prog 126 ⟨.fn, 1, 8, [.one (.nilFn)]⟩ := ⟨by kernel_rfl, show _ = _ by kernel_rfl, by kernel_rfl, by kernel_rfl, by kernel_rfl⟩
theorem td_127 : TdOk Try.prog 127 ⟨.fn, 1, 8, [.one (.nilFn)]⟩ := ⟨by kernel_rfl, show _ = _ by kernel_rfl, by kernel_rfl, by kernel_rfl, by kernel_rfl⟩
theorem td_128 : TdOk Try.prog 128 ⟨.struct [(37, 0), (58, 1)], 2, 16, [.one (.ptr none), .one (.ptr none)]⟩ := ⟨by kernel_rfl, show _ = _ by kernel_rfl, by kernel_rfl, by kernel_rfl, by kernel_rfl⟩
theorem td_129 : TdOk Try.prog 129 ⟨.struct [(37, 0), (58, 1)], 2, 16, [.one (.ptr none), .one (.ptr none)]⟩ := ⟨by kernel_rfl, show _ = _ by kernel_rfl, by kernel_rfl, by kernel_rfl, by kernel_rfl⟩
theorem td_130 : TdOk Try.prog 130 ⟨.fn, 1, 8, [.one (.nilFn)]⟩ := ⟨by kernel_rfl, show _ = _ by kernel_rfl, by kernel_rfl, by kernel_rfl, by kernel_rfl⟩
theorem td_131 : TdOk Try.prog 131 ⟨.fn, 1, 8, [.one (.nilFn)]⟩ := ⟨by kernel_rfl, show _ = _ by kernel_rfl, by kernel_rfl, by kernel_rfl, by kernel_rfl⟩
theorem td_132 : TdOk Try.prog 132 ⟨.fn, 1, 8, [.one (.nilFn)]⟩ := ⟨by kernel_rfl, show _ = _ by kernel_rfl, by kernel_rfl, by kernel_rfl, by kernel_rfl⟩
theorem td_133 : TdOk Try.prog 133 ⟨.fn, 1, 8, [.one (.nilFn)]⟩ := ⟨by kernel_rfl, show _ = _ by kernel_rfl, by kernel_rfl, by kernel_rfl, by kernel_rfl⟩
theorem td_134 : TdOk Try.prog 134 ⟨.ptr 105, 1, 8, [.one (.ptr none)]⟩ := ⟨by kernel_rfl, show _ = _ by kernel_rfl, by kernel_rfl, by kernel_rfl, by kernel_rfl⟩
theorem td_135 : TdOk Try.prog 135 ⟨.array 11 53, 176, 176, [.row 176 (fun _ => .w8 0)]⟩ := ⟨by kernel_rfl, show _ = _ by kernel_rfl, by kernel_rfl, by kernel_rfl, by kernel_rfl⟩
theorem td_136 : TdOk Try.prog 136 ⟨.struct [(58, 0), (135, 1)], 177, 184, [.one (.ptr none), .row 176 (fun _ => .w8 0)]⟩ := ⟨by kernel_rfl, show _ = _ by kernel_rfl, by kernel_rfl, by kernel_rfl, by kernel_rfl⟩
theorem td_137 : TdOk Try.prog 137 ⟨.struct [(58, 0), (135, 1)], 177, 184, [.one (.ptr none), .row 176 (fun _ => .w8 0)]⟩ := ⟨by kernel_rfl, show _ = _ by kernel_rfl, by kernel_rfl, by kernel_rfl, by kernel_rfl⟩
theorem td_138 : TdOk Try.prog 138 ⟨.ptr 53, 1, 8, [.one (.ptr none)]⟩ := ⟨by kernel_rfl, show _ = _ by kernel_rfl, by kernel_rfl, by kernel_rfl, by kernel_rfl⟩
theorem td_139 : TdOk Try.prog 139 ⟨.fn, 1, 8, [.one (.nilFn)]⟩ := ⟨by kernel_rfl, show _ = _ by kernel_rfl, by kernel_rfl, by kernel_rfl, by kernel_rfl⟩
theorem td_140 : TdOk Try.prog 140 ⟨.fn, 1, 8, [.one (.nilFn)]⟩ := ⟨by kernel_rfl, show _ = _ by kernel_rfl, by kernel_rfl, by kernel_rfl, by kernel_rfl⟩
theorem td_141 : TdOk Try.prog 141 ⟨.fn, 1, 8, [.one (.nilFn)]⟩ := ⟨by kernel_rfl, show _ = _ by kernel_rfl, by kernel_rfl, by kernel_rfl, by kernel_rfl⟩
theorem td_142 : TdOk Try.prog 142 ⟨.fn, 1, 8, [.one (.nilFn)]⟩ := ⟨by kernel_rfl, show _ = _ by kernel_rfl, by kernel_rfl, by kernel_rfl, by kernel_rfl⟩
theorem td_143 : TdOk Try.prog 143 ⟨.fn, 1, 8, [.one (.nilFn)]⟩ := ⟨by kernel_rfl, show _ = _ by kernel_rfl, by kernel_rfl, by kernel_rfl, by kernel_rfl⟩
theorem td_144 : TdOk Try.prog 144 ⟨.fn, 1, 8, [.one (.nilFn)]⟩ := ⟨by kernel_rfl, show _ = _ by kernel_rfl, by kernel_rfl, by kernel_rfl, by kernel_rfl⟩
theorem td_145 : TdOk Try.prog 145 ⟨.fn, 1, 8, [.one (.nilFn)]⟩ := ⟨by kernel_rfl, show _ = _ by kernel_rfl, by kernel_rfl, by kernel_rfl, by kernel_rfl⟩
theorem td_146 : TdOk Try.prog 146 ⟨.ptr 94, 1, 8, [.one (.ptr none)]⟩ := ⟨by kernel_rfl, show _ = _ by kernel_rfl, by kernel_rfl, by kernel_rfl, by kernel_rfl⟩
theorem td_147 : TdOk Try.prog 147 ⟨.fn, 1, 8, [.one (.nilFn)]⟩ := ⟨by kernel_rfl, show _ = _ by kernel_rfl, by kernel_rfl, by kernel_rfl, by kernel_rfl⟩
theorem td_148 : TdOk Try.prog 148 ⟨.fn, 1, 8, [.one (.nilFn)]⟩ := ⟨by kernel_rfl, show _ = _ by kernel_rfl, by kernel_rfl, by kernel_rfl, by kernel_rfl⟩
theorem td_149 : TdOk Try.prog 149 ⟨.fn, 1, 8, [.one (.nilFn)]⟩ := ⟨by kernel_rfl, show _ = _ by kernel_rfl, by kernel_rfl, by kernel_rfl, by kernel_rfl⟩
theorem td_150 : TdOk Try.prog 150 ⟨.ptr 121, 1, 8, [.one (.ptr none)]⟩ := ⟨by kernel_rfl, show _ = _ by kernel_rfl, by kernel_rfl, by kernel_rfl, by kernel_rfl⟩
theorem td_151 : TdOk Try.prog 151 ⟨.fn, 1, 8, [.one (.nilFn)]⟩ := ⟨by kernel_rfl, show _ = _ by kernel_rfl, by kernel_rfl, by kernel_rfl, by kernel_rfl⟩
theorem td_152 : TdOk Try.prog 152 ⟨.ptr 2, 1, 8, [.one (.ptr none)]⟩ := ⟨by kernel_rfl, show _ = _ by kernel_rfl, by kernel_rfl, by kernel_rfl, by kernel_rfl⟩
theorem td_153 : TdOk Try.prog 153 ⟨.fn, 1, 8, [.one (.nilFn)]⟩ := ⟨by kernel_rfl, show _ = _ by kernel_rfl, by kernel_rfl, by kernel_rfl, by kernel_rfl⟩
theorem td_154 : TdOk Try.prog 154 ⟨.ptr 88, 1, 8, [.one (.ptr none)]⟩ := ⟨by kernel_rfl, show _ = _ by kernel_rfl, by kernel_rfl, by kernel_rfl, by kernel_rfl⟩
theorem td_155 : TdOk Try.prog 155 ⟨.fn, 1, 8, [.one (.nilFn)]⟩ := ⟨by kernel_rfl, show _ = _ by kernel_rfl, by kernel_rfl, by kernel_rfl, by kernel_rfl⟩
theorem td_156 : TdOk Try.prog 156 ⟨.ptr 86, 1, 8, [.one (.ptr none)]⟩ := ⟨by kernel_rfl, show _ = _ by kernel_rfl, by kernel_rfl, by kernel_rfl, by kernel_rfl⟩
theorem td_157 : TdOk Try.prog 157 ⟨.fn, 1, 8, [.one (.nilFn)]⟩ := ⟨by kernel_rfl, show _ = _ by kernel_rfl, by kernel_rfl, by kernel_rfl, by kernel_rfl⟩
theorem td_159 : TdOk Try.prog 159 ⟨.fn, 1, 8, [.one (.nilFn)]⟩ := ⟨by kernel_rfl, show _ = _ by kernel_rfl, by kernel_rfl, by kernel_rfl, by kernel_rfl⟩
theorem td_160 : TdOk Try.prog 160 ⟨.ptr 92, 1, 8, [.one (.ptr none)]⟩ := ⟨by kernel_rfl, show _ = _ by kernel_rfl, by kernel_rfl, by kernel_rfl, by kernel_rfl⟩
theorem td_161 : TdOk Try.prog 161 ⟨.fn, 1, 8, [.one (.nilFn)]⟩ := ⟨by kernel_rfl, show _ = _ by kernel_rfl, by kernel_rfl, by kernel_rfl, by kernel_rfl⟩
theorem td_162 : TdOk Try.prog 162 ⟨.fn, 1, 8, [.one (.nilFn)]⟩ := ⟨by kernel_rfl, show _ = _ by kernel_rfl, by kernel_rfl, by kernel_rfl, by kernel_rfl⟩
theorem td_163 : TdOk Try.prog 163 ⟨.ptr 90, 1, 8, [.one (.ptr none)]⟩ := ⟨by kernel_rfl, show _ = _ by kernel_rfl, by kernel_rfl, by kernel_rfl, by kernel_rfl⟩
theorem td_164 : TdOk Try.prog 164 ⟨.fn, 1, 8, [.one (.nilFn)]⟩ := ⟨by kernel_rfl, show _ = _ by kernel_rfl, by kernel_rfl, by kernel_rfl, by kernel_rfl⟩
theorem td_165 : TdOk Try.prog 165 ⟨.ptr 21, 1, 8, [.one (.ptr none)]⟩ := ⟨by kernel_rfl, show _ = _ by kernel_rfl, by kernel_rfl, by kernel_rfl, by kernel_rfl⟩
theorem td_166 : TdOk Try.prog 166 ⟨.fn, 1, 8, [.one (.nilFn)]⟩ := ⟨by kernel_rfl, show _ = _ by kernel_rfl, by kernel_rfl, by kernel_rfl, by kernel_rfl⟩
theorem td_168 : TdOk Try.prog 168 ⟨.fn, 1, 8, [.one (.nilFn)]⟩ := ⟨by kernel_rfl, show _ = _ by kernel_rfl, by kernel_rfl, by kernel_rfl, by kernel_rfl⟩
theorem td_169 : TdOk Try.prog 169 ⟨.fn, 1, 8, [.one (.nilFn)]⟩ := ⟨by kernel_rfl, show _ = _ by kernel_rfl, by kernel_rfl, by kernel_rfl, by kernel_rfl⟩
theorem td_170 : TdOk Try.prog 170 ⟨.fn, 1, 8, [.one (.nilFn)]⟩ := ⟨by kernel_rfl, show _ = _ by kernel_rfl, by kernel_rfl, by kernel_rfl, by kernel_rfl⟩
theorem td_171 : TdOk Try.prog 171 ⟨.fn, 1, 8, [.one (.nilFn)]⟩ := ⟨by kernel_rfl, show _ = _ by kernel_rfl, by kernel_rfl, by kernel_rfl, by kernel_rfl⟩
theorem td_172 : TdOk Try.prog 172 ⟨.fn, 1, 8, [.one (.nilFn)]⟩ := ⟨by kernel_rfl, show _ = _ by kernel_rfl, by kernel_rfl, by kernel_rfl, by kernel_rfl⟩
theorem td_173 : TdOk Try.prog 173 ⟨.fn, 1, 8, [.one (.nilFn)]⟩ := ⟨by kernel_rfl, show _ = _ by kernel_rfl, by kernel_rfl, by kernel_rfl, by kernel_rfl⟩
theorem td_174 : TdOk Try.prog 174 ⟨.fn, 1, 8, [.one (.nilFn)]⟩ := ⟨by kernel_rfl, show _ = _ by kernel_rfl, by kernel_rfl, by kernel_rfl, by kernel_rfl⟩
theorem td_175 : TdOk Try.prog 175 ⟨.struct [(17, 0), (17, 1), (17, 2), (9, 3)], 4, 40, [.one (.ptr none), .one (.ptr none), .one (.ptr none), .one (.str [])]⟩ := ⟨by kernel_rfl, show _ = _ by kernel_rfl, by kernel_rfl, by kernel_rfl, by kernel_rfl⟩
theorem td_176 : TdOk Try.prog 176 ⟨.struct [(17, 0), (17, 1), (17, 2), (9, 3)], 4, 40, [.one (.ptr none), .one (.ptr none), .one (.ptr none), .one (.str [])]⟩ := ⟨by kernel_rfl, show _ = _ by kernel_rfl, by kernel_rfl, by kernel_rfl, by kernel_rfl⟩
theorem td_177 : TdOk Try.prog 177 ⟨.array 0 16, 0, 0, [.row 0 (fun _ => .ptr none)]⟩ := ⟨by kernel_rfl, show _ = _ by kernel_rfl, by kernel_rfl, by kernel_rfl, by kernel_rfl⟩
theorem td_178 : TdOk Try.prog 178 ⟨.struct [(177, 0)], 0, 0, [.row 0 (fun _ => .ptr none)]⟩ := ⟨by kernel_rfl, show _ = _ by kernel_rfl, by kernel_rfl, by kernel_rfl, by kernel_rfl⟩
theorem td_179 : TdOk Try.prog 179 ⟨.struct [(177, 0)], 0, 0, [.row 0 (fun _ => .ptr none)]⟩ := ⟨by kernel_rfl, show _ = _ by kernel_rfl, by kernel_rfl, by kernel_rfl, by kernel_rfl⟩
theorem td_180 : TdOk Try.prog 180 ⟨.fn, 1, 8, [.one (.nilFn)]⟩ := ⟨by kernel_rfl, show _ = _ by kernel_rfl, by kernel_rfl, by kernel_rfl, by kernel_rfl⟩
theorem td_181 : TdOk Try.prog 181 ⟨.int .u8, 1, 1, [.one (.w8 0)]⟩ := ⟨by kernel_rfl, show _ = _ by kernel_rfl, by kernel_rfl, by kernel_rfl, by kernel_rfl⟩
theorem td_182 : TdOk Try.prog 182 ⟨.int .u8, 1, 1, [.one (.w8 0)]⟩ := ⟨by kernel_rfl, show _ = _ by kernel_rfl, by kernel_rfl, by kernel_rfl, by kernel_rfl⟩
theorem td_183 : TdOk Try.prog 183 ⟨.fn, 1, 8, [.one (.nilFn)]⟩ := ⟨by kernel_rfl, show _ = _ by kernel_rfl, by kernel_rfl, by kernel_rfl, by kernel_rfl⟩
theorem td_184 : TdOk Try.prog 184 ⟨.ptr 5, 1, 8, [.one (.ptr none)]⟩ := ⟨by kernel_rfl, show _ = _ by kernel_rfl, by kernel_rfl, by kernel_rfl, by kernel_rfl⟩
theorem td_185 : TdOk Try.prog 185 ⟨.int .i32, 1, 4, [.one (.int .i32 0)]⟩ := ⟨by kernel_rfl, show _ = _ by kernel_rfl, by kernel_rfl, by kernel_rfl, by kernel_rfl⟩
theorem td_186 : TdOk Try.prog 186 ⟨.int .i32, 1, 4, [.one (.int .i32 0)]⟩ := ⟨by kernel_rfl, show _ = _ by kernel_rfl, by kernel_rfl, by kernel_rfl, by kernel_rfl⟩
theorem td_187 : TdOk Try.prog 187 ⟨.struct [(12, 0), (12, 1), (86, 2), (181, 3), (5, 4), (5, 5), (182, 6), (183, 7), (184, 8), (185, 9), (186, 10)], 11, 48, [.one (.w64 0), .one (.w64 0), .one (.w32 0), .one (.w8 0), .one (.w8 0), .one (.w8 0), .one (.w8 0), .one (.nilFn), .one (.ptr none), .one (.int .i32 0), .one (.int .i32 0)]⟩ := ⟨by kernel_rfl, show _ = _ by kernel_rfl, by kernel_rfl, by kernel_rfl, by kernel_rfl⟩
theorem td_188 : TdOk Try.prog 188 ⟨.struct [(12, 0), (12, 1), (86, 2), (181, 3), (5, 4), (5, 5), (182, 6), (183, 7), (184, 8), (185, 9), (186, 10)], 11, 48, [.one (.w64 0), .one (.w64 0), .one (.w32 0), .one (.w8 0), .one (.w8 0), .one (.w8 0), .one (.w8 0), .one (.nilFn), .one (.ptr none), .one (.int .i32 0), .one (.int .i32 0)]⟩ := ⟨by kernel_rfl, show _ = _ by kernel_rfl, by kernel_rfl, by kernel_rfl, by kernel_rfl⟩
theorem tds_ok : AllT Try.prog tds := ⟨td_1, td_2, td_3, td_4, td_5, td_6, td_7, td_8, td_9, td_10, td_11, td_12, td_13, td_14, td_15, td_16, td_17, td_18, td_19, td_20, td_21, td_22, td_23, td_24, td_25, td_26, td_27, td_28, td_29, td_30, td_31, td_32, td_33, td_34, td_35, td_36, td_37, td_38, td_39, td_41, td_42, td_43, td_44, td_45, td_46, td_47, td_48, td_49, td_50, td_51, td_52, td_53, td_54, td_55, td_56, td_57, td_58, td_59, td_60, td_61, td_62, td_63, td_64, td_65, td_67, td_68, td_69, td_70, td_71, td_72, td_73, td_74, td_75, td_76, td_77, td_78, td_79, td_80, td_81, td_82, td_83, td_84, td_85, td_86, td_87, td_88, td_89, td_90, td_91, td_92, td_93, td_94, td_95, td_96, td_97, td_98, td_99, td_100, td_101, td_102, td_103, td_104, td_105, td_106, td_107, td_108, td_109, td_110, td_111, td_112, td_113, td_114, td_115, td_116, td_117, td_118, td_119, td_120, td_121, td_122, td_123, td_124, td_125, td_126, td_127, td_128, td_129, td_130, td_131, td_132, td_133, td_134, td_135, td_136, td_137, td_138, td_139, td_140, td_141, td_142, td_143, td_144, td_145, td_146, td_147, td_148, td_149, td_150, td_151, td_152, td_153, td_154, td_155, td_156, td_157, td_159, td_160, td_161, td_162, td_163, td_164, td_165, td_166, td_168, td_169, td_170, td_171, td_172, td_173, td_174, td_175, td_176, td_177, td_178, td_179, td_180, td_181, td_182, td_183, td_184, td_185, td_186, td_187, td_188, trivial⟩
end Sx
end Go.Proofs.Ytndlhhhebijknaa
