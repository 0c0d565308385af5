/-
  The table of types. No condition.
-/
import Derived.Test.YtngajbgfnmahdaaSxb
namespace Go.Proofs.Ytngajbgfnmahdaa
namespace Sx
def tds : List (Nat × TD) := [(1, ⟨.fn, 1, 8, [.one (.nilFn)]⟩),
  (2, ⟨.int .i64, 1, 8, [.one (.int .i64 0)]⟩),
  (3, ⟨.int .i64, 1, 8, [.one (.int .i64 0)]⟩),
  (4, ⟨.bool, 1, 1, [.one (.bool false)]⟩),
  (5, ⟨.int .u8, 1, 1, [.one (.w8 0)]⟩),
  (6, ⟨.int .u8, 1, 1, [.one (.w8 0)]⟩),
  (7, ⟨.struct [(2, 0), (3, 1), (4, 2), (6, 3)], 4, 24, [.one (.int .i64 0), .one (.int .i64 0), .one (.bool false), .one (.w8 0)]⟩),
  (8, ⟨.struct [(2, 0), (3, 1), (4, 2), (6, 3)], 4, 24, [.one (.int .i64 0), .one (.int .i64 0), .one (.bool false), .one (.w8 0)]⟩),
  (9, ⟨.str, 1, 16, [.one (.str [])]⟩),
  (10, ⟨.str, 1, 16, [.one (.str [])]⟩),
  (11, ⟨.str, 1, 16, [.one (.str [])]⟩),
  (12, ⟨.int .u64, 1, 8, [.one (.w64 0)]⟩),
  (13, ⟨.struct [(9, 0), (12, 1)], 2, 24, [.one (.str []), .one (.w64 0)]⟩),
  (14, ⟨.struct [(9, 0), (12, 1)], 2, 24, [.one (.str []), .one (.w64 0)]⟩),
  (15, ⟨.ptr 141, 1, 8, [.one (.ptr none)]⟩),
  (16, ⟨.ptr 144, 1, 8, [.one (.ptr none)]⟩),
  (17, ⟨.ptr 153, 1, 8, [.one (.ptr none)]⟩),
  (18, ⟨.struct [(17, 0)], 1, 8, [.one (.ptr none)]⟩),
  (19, ⟨.struct [(17, 0)], 1, 8, [.one (.ptr none)]⟩),
  (20, ⟨.ifc, 1, 16, [.one (.nilIfc)]⟩),
  (21, ⟨.int .i32, 1, 4, [.one (.int .i32 0)]⟩),
  (22, ⟨.array 16 5, 16, 16, [.row 16 (fun _ => .w8 0)]⟩),
  (23, ⟨.array 16 5, 16, 16, [.row 16 (fun _ => .w8 0)]⟩),
  (24, ⟨.fn, 1, 8, [.one (.nilFn)]⟩),
  (25, ⟨.slice 5, 1, 24, [.one (.slc none 0 0)]⟩),
  (26, ⟨.fn, 1, 8, [.one (.nilFn)]⟩),
  (27, ⟨.ptr 90, 1, 8, [.one (.ptr none)]⟩),
  (28, ⟨.ptr 86, 1, 8, [.one (.ptr none)]⟩),
  (29, ⟨.fn, 1, 8, [.one (.nilFn)]⟩),
  (30, ⟨.fn, 1, 8, [.one (.nilFn)]⟩),
  (31, ⟨.fn, 1, 8, [.one (.nilFn)]⟩),
  (32, ⟨.fn, 1, 8, [.one (.nilFn)]⟩),
  (33, ⟨.fn, 1, 8, [.one (.nilFn)]⟩),
  (34, ⟨.fn, 1, 8, [.one (.nilFn)]⟩),
  (35, ⟨.fn, 1, 8, [.one (.nilFn)]⟩),
  (36, ⟨.fn, 1, 8, [.one (.nilFn)]⟩),
  (38, ⟨.fn, 1, 8, [.one (.nilFn)]⟩),
  (39, ⟨.fn, 1, 8, [.one (.nilFn)]⟩),
  (40, ⟨.fn, 1, 8, [.one (.nilFn)]⟩),
  (41, ⟨.int .u16, 1, 2, [.one (.w16 0)]⟩),
  (42, ⟨.ptr 98, 1, 8, [.one (.ptr none)]⟩),
  (43, ⟨.fn, 1, 8, [.one (.nilFn)]⟩),
  (44, ⟨.fn, 1, 8, [.one (.nilFn)]⟩),
  (45, ⟨.array 32 5, 32, 32, [.row 32 (fun _ => .w8 0)]⟩),
  (46, ⟨.fn, 1, 8, [.one (.nilFn)]⟩),
  (47, ⟨.slice 25, 1, 24, [.one (.slc none 0 0)]⟩),
  (48, ⟨.fn, 1, 8, [.one (.nilFn)]⟩),
  (49, ⟨.fn, 1, 8, [.one (.nilFn)]⟩),
  (50, ⟨.fn, 1, 8, [.one (.nilFn)]⟩),
  (51, ⟨.fn, 1, 8, [.one (.nilFn)]⟩),
  (52, ⟨.fn, 1, 8, [.one (.nilFn)]⟩),
  (53, ⟨.array 32 5, 32, 32, [.row 32 (fun _ => .w8 0)]⟩),
  (54, ⟨.ptr 110, 1, 8, [.one (.ptr none)]⟩),
  (55, ⟨.fn, 1, 8, [.one (.nilFn)]⟩),
  (56, ⟨.int .i64, 1, 8, [.one (.int .i64 0)]⟩),
  (58, ⟨.fn, 1, 8, [.one (.nilFn)]⟩),
  (59, ⟨.fn, 1, 8, [.one (.nilFn)]⟩),
  (60, ⟨.fn, 1, 8, [.one (.nilFn)]⟩),
  (61, ⟨.fn, 1, 8, [.one (.nilFn)]⟩),
  (62, ⟨.fn, 1, 8, [.one (.nilFn)]⟩),
  (63, ⟨.fn, 1, 8, [.one (.nilFn)]⟩),
  (64, ⟨.fn, 1, 8, [.one (.nilFn)]⟩),
  (65, ⟨.fn, 1, 8, [.one (.nilFn)]⟩),
  (66, ⟨.fn, 1, 8, [.one (.nilFn)]⟩),
  (67, ⟨.fn, 1, 8, [.one (.nilFn)]⟩),
  (68, ⟨.fn, 1, 8, [.one (.nilFn)]⟩),
  (69, ⟨.struct [], 0, 0, []⟩),
  (70, ⟨.struct [], 0, 0, []⟩),
  (71, ⟨.struct [], 0, 0, []⟩),
  (72, ⟨.int .u32, 1, 4, [.one (.w32 0)]⟩),
  (73, ⟨.struct [(71, 0), (72, 0)], 1, 4, [.one (.w32 0)]⟩),
  (74, ⟨.struct [(71, 0), (72, 0)], 1, 4, [.one (.w32 0)]⟩),
  (75, ⟨.struct [(21, 0), (72, 1)], 2, 8, [.one (.int .i32 0), .one (.w32 0)]⟩),
  (76, ⟨.struct [(21, 0), (72, 1)], 2, 8, [.one (.int .i32 0), .one (.w32 0)]⟩),
  (77, ⟨.struct [(70, 0), (76, 0)], 2, 8, [.one (.int .i32 0), .one (.w32 0)]⟩),
  (78, ⟨.struct [(70, 0), (76, 0)], 2, 8, [.one (.int .i32 0), .one (.w32 0)]⟩),
  (79, ⟨.struct [(70, 0), (74, 0), (78, 1)], 3, 12, [.one (.w32 0), .one (.int .i32 0), .one (.w32 0)]⟩),
  (80, ⟨.struct [(70, 0), (74, 0), (78, 1)], 3, 12, [.one (.w32 0), .one (.int .i32 0), .one (.w32 0)]⟩),
  (81, ⟨.array 256 5, 256, 256, [.row 256 (fun _ => .w8 0)]⟩),
  (82, ⟨.struct [], 0, 0, []⟩),
  (83, ⟨.struct [(71, 0), (82, 0), (2, 0)], 1, 8, [.one (.int .i64 0)]⟩),
  (84, ⟨.struct [(71, 0), (82, 0), (2, 0)], 1, 8, [.one (.int .i64 0)]⟩),
  (85, ⟨.struct [(80, 0), (81, 3), (84, 259)], 260, 280, [.one (.w32 0), .one (.int .i32 0), .one (.w32 0), .row 256 (fun _ => .w8 0), .one (.int .i64 0)]⟩),
  (86, ⟨.struct [(80, 0), (81, 3), (84, 259)], 260, 280, [.one (.w32 0), .one (.int .i32 0), .one (.w32 0), .row 256 (fun _ => .w8 0), .one (.int .i64 0)]⟩),
  (87, ⟨.fn, 1, 8, [.one (.nilFn)]⟩),
  (88, ⟨.array 11 23, 176, 176, [.row 176 (fun _ => .w8 0)]⟩),
  (89, ⟨.struct [(28, 0), (88, 1)], 177, 184, [.one (.ptr none), .row 176 (fun _ => .w8 0)]⟩),
  (90, ⟨.struct [(28, 0), (88, 1)], 177, 184, [.one (.ptr none), .row 176 (fun _ => .w8 0)]⟩),
  (91, ⟨.ptr 23, 1, 8, [.one (.ptr none)]⟩),
  (92, ⟨.fn, 1, 8, [.one (.nilFn)]⟩),
  (93, ⟨.fn, 1, 8, [.one (.nilFn)]⟩),
  (94, ⟨.int .u64, 1, 8, [.one (.w64 0)]⟩),
  (95, ⟨.array 8 72, 8, 32, [.row 8 (fun _ => .w32 0)]⟩),
  (96, ⟨.array 64 72, 64, 256, [.row 64 (fun _ => .w32 0)]⟩),
  (97, ⟨.struct [(80, 0), (95, 3), (96, 11)], 75, 300, [.one (.w32 0), .one (.int .i32 0), .one (.w32 0), .row 8 (fun _ => .w32 0), .row 64 (fun _ => .w32 0)]⟩),
  (98, ⟨.struct [(80, 0), (95, 3), (96, 11)], 75, 300, [.one (.w32 0), .one (.int .i32 0), .one (.w32 0), .row 8 (fun _ => .w32 0), .row 64 (fun _ => .w32 0)]⟩),
  (99, ⟨.slice 72, 1, 24, [.one (.slc none 0 0)]⟩),
  (100, ⟨.int .u64, 1, 8, [.one (.w64 0)]⟩),
  (101, ⟨.fn, 1, 8, [.one (.nilFn)]⟩),
  (102, ⟨.fn, 1, 8, [.one (.nilFn)]⟩),
  (103, ⟨.array 64 5, 64, 64, [.row 64 (fun _ => .w8 0)]⟩),
  (104, ⟨.struct [(42, 0), (95, 1), (103, 9), (3, 73), (100, 74)], 75, 120, [.one (.ptr none), .row 8 (fun _ => .w32 0), .row 64 (fun _ => .w8 0), .one (.int .i64 0), .one (.w64 0)]⟩),
  (105, ⟨.struct [(42, 0), (95, 1), (103, 9), (3, 73), (100, 74)], 75, 120, [.one (.ptr none), .row 8 (fun _ => .w32 0), .row 64 (fun _ => .w8 0), .one (.int .i64 0), .one (.w64 0)]⟩),
  (106, ⟨.fn, 1, 8, [.one (.nilFn)]⟩),
  (107, ⟨.fn, 1, 8, [.one (.nilFn)]⟩),
  (108, ⟨.fn, 1, 8, [.one (.nilFn)]⟩),
  (109, ⟨.struct [(98, 0)], 75, 300, [.one (.w32 0), .one (.int .i32 0), .one (.w32 0), .row 8 (fun _ => .w32 0), .row 64 (fun _ => .w32 0)]⟩),
  (110, ⟨.struct [(98, 0)], 75, 300, [.one (.w32 0), .one (.int .i32 0), .one (.w32 0), .row 8 (fun _ => .w32 0), .row 64 (fun _ => .w32 0)]⟩),
  (111, ⟨.ptr 80, 1, 8, [.one (.ptr none)]⟩),
  (112, ⟨.fn, 1, 8, [.one (.nilFn)]⟩),
  (113, ⟨.ptr 84, 1, 8, [.one (.ptr none)]⟩),
  (114, ⟨.fn, 1, 8, [.one (.nilFn)]⟩),
  (115, ⟨.ptr 2, 1, 8, [.one (.ptr none)]⟩),
  (116, ⟨.fn, 1, 8, [.one (.nilFn)]⟩),
  (117, ⟨.ptr 105, 1, 8, [.one (.ptr none)]⟩),
  (118, ⟨.ptr 74, 1, 8, [.one (.ptr none)]⟩),
  (119, ⟨.fn, 1, 8, [.one (.nilFn)]⟩),
  (120, ⟨.ptr 72, 1, 8, [.one (.ptr none)]⟩),
  (121, ⟨.fn, 1, 8, [.one (.nilFn)]⟩),
  (122, ⟨.fn, 1, 8, [.one (.nilFn)]⟩),
  (123, ⟨.fn, 1, 8, [.one (.nilFn)]⟩),
  (124, ⟨.ptr 78, 1, 8, [.one (.ptr none)]⟩),
  (125, ⟨.fn, 1, 8, [.one (.nilFn)]⟩),
  (126, ⟨.fn, 1, 8, [.one (.nilFn)]⟩),
  (128, ⟨.fn, 1, 8, [.one (.nilFn)]⟩),
  (129, ⟨.ptr 76, 1, 8, [.one (.ptr none)]⟩),
  (130, ⟨.fn, 1, 8, [.one (.nilFn)]⟩),
  (131, ⟨.ptr 21, 1, 8, [.one (.ptr none)]⟩),
  (132, ⟨.fn, 1, 8, [.one (.nilFn)]⟩),
  (134, ⟨.fn, 1, 8, [.one (.nilFn)]⟩),
  (135, ⟨.fn, 1, 8, [.one (.nilFn)]⟩),
  (136, ⟨.fn, 1, 8, [.one (.nilFn)]⟩),
  (137, ⟨.fn, 1, 8, [.one (.nilFn)]⟩),
  (138, ⟨.fn, 1, 8, [.one (.nilFn)]⟩),
  (139, ⟨.fn, 1, 8, [.one (.nilFn)]⟩),
  (140, ⟨.struct [(17, 0), (17, 1), (17, 2), (9, 3)], 4, 40, [.one (.ptr none), .one (.ptr none), .one (.ptr none), .one (.str [])]⟩),
  (141, ⟨.struct [(17, 0), (17, 1), (17, 2), (9, 3)], 4, 40, [.one (.ptr none), .one (.ptr none), .one (.ptr none), .one (.str [])]⟩),
  (142, ⟨.array 0 16, 0, 0, [.row 0 (fun _ => .ptr none)]⟩),
  (143, ⟨.struct [(142, 0)], 0, 0, [.row 0 (fun _ => .ptr none)]⟩),
  (144, ⟨.struct [(142, 0)], 0, 0, [.row 0 (fun _ => .ptr none)]⟩),
  (145, ⟨.fn, 1, 8, [.one (.nilFn)]⟩),
  (146, ⟨.int .u8, 1, 1, [.one (.w8 0)]⟩),
  (147, ⟨.int .u8, 1, 1, [.one (.w8 0)]⟩),
  (148, ⟨.fn, 1, 8, [.one (.nilFn)]⟩),
  (149, ⟨.ptr 5, 1, 8, [.one (.ptr none)]⟩),
  (150, ⟨.int .i32, 1, 4, [.one (.int .i32 0)]⟩),
  (151, ⟨.int .i32, 1, 4, [.one (.int .i32 0)]⟩),
  (152, ⟨.struct [(12, 0), (12, 1), (72, 2), (146, 3), (5, 4), (5, 5), (147, 6), (148, 7), (149, 8), (150, 9), (151, 10)], 11, 48, [.one (.w64 0), .one (.w64 0), .one (.w32 0), .one (.w8 0), .one (.w8 0), .one (.w8 0), .one (.w8 0), .one (.nilFn), .one (.ptr none), .one (.int .i32 0), .one (.int .i32 0)]⟩),
  (153, ⟨.struct [(12, 0), (12, 1), (72, 2), (146, 3), (5, 4), (5, 5), (147, 6), (148, 7), (149, 8), (150, 9), (151, 10)], 11, 48, [.one (.w64 0), .one (.w64 0), .one (.w32 0), .one (.w8 0), .one (.w8 0), .one (.w8 0), .one (.w8 0), .one (.nilFn), .one (.ptr none), .one (.int .i32 0), .one (.int .i32 0)]⟩)]
theorem td_1 : TdOk Try.prog 1 ⟨.fn, 1, 8, [.one (.nilFn)]⟩ := ⟨by kernel_rfl, show _ = _ by kernel_rfl, by kernel_rfl, by kernel_rfl, by kernel_rfl⟩
theorem td_2 : TdOk Try.prog 2 ⟨.int .i64, 1, 8, [.one (.int .i64 0)]⟩ := ⟨by kernel_rfl, show _ = _ by kernel_rfl, by kernel_rfl, by kernel_rfl, by kernel_rfl⟩
theorem td_3 : TdOk Try.prog 3 ⟨.int .i64, 1, 8, [.one (.int .i64 0)]⟩ := ⟨by kernel_rfl, show _ = _ by kernel_rfl, by kernel_rfl, by kernel_rfl, by kernel_rfl⟩
theorem td_4 : TdOk Try.prog 4 ⟨.bool, 1, 1, [.one (.bool false)]⟩ := ⟨by kernel_rfl, show _ = _ by kernel_rfl, by kernel_rfl, by kernel_rfl, by kernel_rfl⟩
theorem td_5 : TdOk Try.prog 5 ⟨.int .u8, 1, 1, [.one (.w8 0)]⟩ := ⟨by kernel_rfl, show _ = _ by kernel_rfl, by kernel_rfl, by kernel_rfl, by kernel_rfl⟩
theorem td_6 : TdOk Try.prog 6 ⟨.int .u8, 1, 1, [.one (.w8 0)]⟩ := ⟨by kernel_rfl, show _ = _ by kernel_rfl, by kernel_rfl, by kernel_rfl, by kernel_rfl⟩
theorem td_7 : TdOk Try.prog 7 ⟨.struct [(2, 0), (3, 1), (4, 2), (6, 3)], 4, 24, [.one (.int .i64 0), .one (.int .i64 0), .one (.bool false), .one (.w8 0)]⟩ := ⟨by kernel_rfl, show _ = _ by kernel_rfl, by kernel_rfl, by kernel_rfl, by kernel_rfl⟩
theorem td_8 : TdOk Try.prog 8 ⟨.struct [(2, 0), (3, 1), (4, 2), (6, 3)], 4, 24, [.one (.int .i64 0), .one (.int .i64 0), .one (.bool false), .one (.w8 0)]⟩ := ⟨by kernel_rfl, show _ = _ by kernel_rfl, by kernel_rfl, by kernel_rfl, by kernel_rfl⟩
theorem td_9 : TdOk Try.prog 9 ⟨.str, 1, 16, [.one (.str [])]⟩ := ⟨by kernel_rfl, show _ = _ by kernel_rfl, by kernel_rfl, by kernel_rfl, by kernel_rfl⟩
theorem td_10 : TdOk Try.prog 10 ⟨.str, 1, 16, [.one (.str [])]⟩ := ⟨by kernel_rfl, show _ = _ by kernel_rfl, by kernel_rfl, by kernel_rfl, by kernel_rfl⟩
theorem td_11 : TdOk Try.prog 11 ⟨.str, 1, 16, [.one (.str [])]⟩ := ⟨by kernel_rfl, show _ = _ by kernel_rfl, by kernel_rfl, by kernel_rfl, by kernel_rfl⟩
theorem td_12 : TdOk Try.prog 12 ⟨.int .u64, 1, 8, [.one (.w64 0)]⟩ := ⟨by kernel_rfl, show _ = _ by kernel_rfl, by kernel_rfl, by kernel_rfl, by kernel_rfl⟩
theorem td_13 : TdOk Try.prog 13 ⟨.struct [(9, 0), (12, 1)], 2, 24, [.one (.str []), .one (.w64 0)]⟩ := ⟨by kernel_rfl, show _ = _ by kernel_rfl, by kernel_rfl, by kernel_rfl, by kernel_rfl⟩
theorem td_14 : TdOk Try.prog 14 ⟨.struct [(9, 0), (12, 1)], 2, 24, [.one (.str []), .one (.w64 0)]⟩ := ⟨by kernel_rfl, show _ = _ by kernel_rfl, by kernel_rfl, by kernel_rfl, by kernel_rfl⟩
theorem td_15 : TdOk Try.prog 15 ⟨.ptr 141, 1, 8, [.one (.ptr none)]⟩ := ⟨by kernel_rfl, show _ = _ by kernel_rfl, by kernel_rfl, by kernel_rfl, by kernel_rfl⟩
theorem td_16 : TdOk Try.prog 16 ⟨.ptr 144, 1, 8, [.one (.ptr none)]⟩ := ⟨by kernel_rfl, show _ = _ by kernel_rfl, by kernel_rfl, by kernel_rfl, by kernel_rfl⟩
theorem td_17 : TdOk Try.prog 17 ⟨.ptr 153, 1, 8, [.one (.ptr none)]⟩ := ⟨by kernel_rfl, show _ = _ by kernel_rfl, by kernel_rfl, by kernel_rfl, by kernel_rfl⟩
theorem td_18 : TdOk Try.prog 18 ⟨.struct [(17, 0)], 1, 8, [.one (.ptr none)]⟩ := ⟨by kernel_rfl, show _ = _ by kernel_rfl, by kernel_rfl, by kernel_rfl, by kernel_rfl⟩
theorem td_19 : TdOk Try.prog 19 ⟨.struct [(17, 0)], 1, 8, [.one (.ptr none)]⟩ := ⟨by kernel_rfl, show _ = _ by kernel_rfl, by kernel_rfl, by kernel_rfl, by kernel_rfl⟩
theorem td_20 : TdOk Try.prog 20 ⟨.ifc, 1, 16, [.one (.nilIfc)]⟩ := ⟨by kernel_rfl, show _ = _ by kernel_rfl, by kernel_rfl, by kernel_rfl, by kernel_rfl⟩
theorem td_21 : TdOk Try.prog 21 ⟨.int .i32, 1, 4, [.one (.int .i32 0)]⟩ := ⟨by kernel_rfl, show _ = _ by kernel_rfl, by kernel_rfl, by kernel_rfl, by kernel_rfl⟩
theorem td_22 : TdOk Try.prog 22 ⟨.array 16 5, 16, 16, [.row 16 (fun _ => .w8 0)]⟩ := ⟨by kernel_rfl, show _ = _ by kernel_rfl, by kernel_rfl, by kernel_rfl, by kernel_rfl⟩
theorem td_23 : TdOk Try.prog 23 ⟨.array 16 5, 16, 16, [.row 16 (fun _ => .w8 0)]⟩ := ⟨by kernel_rfl, show _ = _ by kernel_rfl, by kernel_rfl, by kernel_rfl, by kernel_rfl⟩
theorem td_24 : TdOk Try.prog 24 ⟨.fn, 1, 8, [.one (.nilFn)]⟩ := ⟨by kernel_rfl, show _ = _ by kernel_rfl, by kernel_rfl, by kernel_rfl, by kernel_rfl⟩
theorem td_25 : TdOk Try.prog 25 ⟨.slice 5, 1, 24, [.one (.slc none 0 0)]⟩ := ⟨by kernel_rfl, show _ = _ by kernel_rfl, by kernel_rfl, by kernel_rfl, by kernel_rfl⟩
theorem td_26 : TdOk Try.prog 26 ⟨.fn, 1, 8, [.one (.nilFn)]⟩ := ⟨by kernel_rfl, show _ = _ by kernel_rfl, by kernel_rfl, by kernel_rfl, by kernel_rfl⟩
theorem td_27 : TdOk Try.prog 27 ⟨.ptr 90, 1, 8, [.one (.ptr none)]⟩ := ⟨by kernel_rfl, show _ = _ by kernel_rfl, by kernel_rfl, by kernel_rfl, by kernel_rfl⟩
theorem td_28 : TdOk Try.prog 28 ⟨.ptr 86, 1, 8, [.one (.ptr none)]⟩ := ⟨by kernel_rfl, show _ = _ by kernel_rfl, by kernel_rfl, by kernel_rfl, by kernel_rfl⟩
theorem td_29 : TdOk Try.prog 29 ⟨.fn, 1, 8, [.one (.nilFn)]⟩ := ⟨by kernel_rfl, show _ = _ by kernel_rfl, by kernel_rfl, by kernel_rfl, by kernel_rfl⟩
theorem td_30 : TdOk Try.prog 30 ⟨.fn, 1, 8, [.one (.nilFn)]⟩ := ⟨by kernel_rfl, show _ = _ by kernel_rfl, by kernel_rfl, by kernel_rfl, by kernel_rfl⟩
theorem td_31 : TdOk Try.prog 31 ⟨.fn, 1, 8, [.one (.nilFn)]⟩ := ⟨by kernel_rfl, show _ = _ by kernel_rfl, by kernel_rfl, by kernel_rfl, by kernel_rfl⟩
theorem td_32 : TdOk Try.prog 32 ⟨.fn, 1, 8, [.one (.nilFn)]⟩ := ⟨by kernel_rfl, show _ = _ by kernel_rfl, by kernel_rfl, by kernel_rfl, by kernel_rfl⟩
theorem td_33 : TdOk Try.prog 33 ⟨.fn, 1, 8, [.one (.nilFn)]⟩ := ⟨by kernel_rfl, show _ = _ by kernel_rfl, by kernel_rfl, by kernel_rfl, by kernel_rfl⟩
theorem td_34 : TdOk Try.prog 34 ⟨.fn, 1, 8, [.one (.nilFn)]⟩ := ⟨by kernel_rfl, show _ = _ by kernel_rfl, by kernel_rfl, by kernel_rfl, by kernel_rfl⟩
theorem td_35 : TdOk Try.prog 35 ⟨.fn, 1, 8, [.one (.nilFn)]⟩ := ⟨by kernel_rfl, show _ = _ by kernel_rfl, by kernel_rfl, by kernel_rfl, by kernel_rfl⟩
theorem td_36 : TdOk Try.prog 36 ⟨.fn, 1, 8, [.one (.nilFn)]⟩ := ⟨by kernel_rfl, show _ = _ by kernel_rfl, by kernel_rfl, by kernel_rfl, by kernel_rfl⟩
theorem td_38 : TdOk Try.prog 38 ⟨.fn, 1, 8, [.one (.nilFn)]⟩ := ⟨by kernel_rfl, show _ = _ by kernel_rfl, by kernel_rfl, by kernel_rfl, by kernel_rfl⟩
theorem td_39 : TdOk Try.prog 39 ⟨.fn, 1, 8, [.one (.nilFn)]⟩ := ⟨by kernel_rfl, show _ = _ by kernel_rfl, by kernel_rfl, by kernel_rfl, by kernel_rfl⟩
theorem td_40 : TdOk Try.prog 40 ⟨.fn, 1, 8, [.one (.nilFn)]⟩ := ⟨by kernel_rfl, show _ = _ by kernel_rfl, by kernel_rfl, by kernel_rfl, by kernel_rfl⟩
theorem td_41 : TdOk Try.prog 41 ⟨.int .u16, 1, 2, [.one (.w16 0)]⟩ := ⟨by kernel_rfl, show _ = _ by kernel_rfl, by kernel_rfl, by kernel_rfl, by kernel_rfl⟩
theorem td_42 : TdOk Try.prog 42 ⟨.ptr 98, 1, 8, [.one (.ptr none)]⟩ := ⟨by kernel_rfl, show _ = _ by kernel_rfl, by kernel_rfl, by kernel_rfl, by kernel_rfl⟩
theorem td_43 : TdOk Try.prog 43 ⟨.fn, 1, 8, [.one (.nilFn)]⟩ := ⟨by kernel_rfl, show _ = _ by kernel_rfl, by kernel_rfl, by kernel_rfl, by kernel_rfl⟩
theorem td_44 : TdOk Try.prog 44 ⟨.fn, 1, 8, [.one (.nilFn)]⟩ := ⟨by kernel_rfl, show _ = _ by kernel_rfl, by kernel_rfl, by kernel_rfl, by kernel_rfl⟩
theorem td_45 : TdOk Try.prog 45 ⟨.array 32 5, 32, 32, [.row 32 (fun _ => .w8 0)]⟩ := ⟨by kernel_rfl, show _ = _ by kernel_rfl, by kernel_rfl, by kernel_rfl, by kernel_rfl⟩
theorem td_46 : TdOk Try.prog 46 ⟨.fn, 1, 8, [.one (.nilFn)]⟩ := ⟨by kernel_rfl, show _ = _ by kernel_rfl, by kernel_rfl, by kernel_rfl, by kernel_rfl⟩
theorem td_47 : TdOk Try.prog 47 ⟨.slice 25, 1, 24, [.one (.slc none 0 0)]⟩ := ⟨by kernel_rfl, show _ = _ by kernel_rfl, by kernel_rfl, by kernel_rfl, by kernel_rfl⟩
theorem td_48 : TdOk Try.prog 48 ⟨.fn, 1, 8, [.one (.nilFn)]⟩ := ⟨by kernel_rfl, show _ = _ by kernel_rfl, by kernel_rfl, by kernel_rfl, by kernel_rfl⟩
theorem td_49 : TdOk Try.prog 49 ⟨.fn, 1, 8, [.one (.nilFn)]⟩ := ⟨by kernel_rfl, show _ = _ by kernel_rfl, by kernel_rfl, by kernel_rfl, by kernel_rfl⟩
theorem td_50 : TdOk Try.prog 50 ⟨.fn, 1, 8, [.one (.nilFn)]⟩ := ⟨by kernel_rfl, show _ = _ by kernel_rfl, by kernel_rfl, by kernel_rfl, by kernel_rfl⟩
theorem td_51 : TdOk Try.prog 51 ⟨.fn, 1, 8, [.one (.nilFn)]⟩ := ⟨by kernel_rfl, show _ = _ by kernel_rfl, by kernel_rfl, by kernel_rfl, by kernel_rfl⟩
theorem td_52 : TdOk Try.prog 52 ⟨.fn, 1, 8, [.one (.nilFn)]⟩ := ⟨by kernel_rfl, show _ = _ by kernel_rfl, by kernel_rfl, by kernel_rfl, by kernel_rfl⟩
theorem td_53 : TdOk Try.prog 53 ⟨.array 32 5, 32, 32, [.row 32 (fun _ => .w8 0)]⟩ := ⟨by kernel_rfl, show _ = _ by kernel_rfl, by kernel_rfl, by kernel_rfl, by kernel_rfl⟩
theorem td_54 : TdOk Try.prog 54 ⟨.ptr 110, 1, 8, [.one (.ptr none)]⟩ := ⟨by kernel_rfl, show _ = _ by kernel_rfl, by kernel_rfl, by kernel_rfl, by kernel_rfl⟩
theorem td_55 : TdOk Try.prog 55 ⟨.fn, 1, 8, [.one (.nilFn)]⟩ := ⟨by kernel_rfl, show _ = _ by kernel_rfl, by kernel_rfl, by kernel_rfl, by kernel_rfl⟩
theorem td_56 : TdOk Try.prog 56 ⟨.int .i64, 1, 8, [.one (.int .i64 0)]⟩ := ⟨by kernel_rfl, show _ = _ by kernel_rfl, by kernel_rfl, by kernel_rfl, by kernel_rfl⟩
theorem td_58 : TdOk Try.prog 58 ⟨.fn, 1, 8, [.one (.nilFn)]⟩ := ⟨by kernel_rfl, show _ = _ by kernel_rfl, by kernel_rfl, by kernel_rfl, by kernel_rfl⟩
theorem td_59 : TdOk Try.prog 59 ⟨.fn, 1, 8, [.one (.nilFn)]⟩ := ⟨by kernel_rfl, show _ = _ by kernel_rfl, by kernel_rfl, by kernel_rfl, by kernel_rfl⟩
theorem td_60 : TdOk Try.prog 60 ⟨.fn, 1, 8, [.one (.nilFn)]⟩ := ⟨by kernel_rfl, show _ = _ by kernel_rfl, by kernel_rfl, by kernel_rfl, by kernel_rfl⟩
theorem td_61 : TdOk Try.prog 61 ⟨.fn, 1, 8, [.one (.nilFn)]⟩ := ⟨by kernel_rfl, show _ = _ by kernel_rfl, by kernel_rfl, by kernel_rfl, by kernel_rfl⟩
theorem td_62 : TdOk Try.prog 62 ⟨.fn, 1, 8, [.one (.nilFn)]⟩ := ⟨by kernel_rfl, show _ = _ by kernel_rfl, by kernel_rfl, by kernel_rfl, by kernel_rfl⟩
theorem td_63 : TdOk Try.prog 63 ⟨.fn, 1, 8, [.one (.nilFn)]⟩ := ⟨by kernel_rfl, show _ = _ by kernel_rfl, by kernel_rfl, by kernel_rfl, by kernel_rfl⟩
theorem td_64 : TdOk Try.prog 64 ⟨.fn, 1, 8, [.one (.nilFn)]⟩ := ⟨by kernel_rfl, show _ = _ by kernel_rfl, by kernel_rfl, by kernel_rfl, by kernel_rfl⟩
theorem td_65 : TdOk Try.prog 65 ⟨.fn, 1, 8, [.one (.nilFn)]⟩ := ⟨by kernel_rfl, show _ = _ by kernel_rfl, by kernel_rfl, by kernel_rfl, by kernel_rfl⟩
theorem td_66 : TdOk Try.prog 66 ⟨.fn, 1, 8, [.one (.nilFn)]⟩ := ⟨by kernel_rfl, show _ = _ by kernel_rfl, by kernel_rfl, by kernel_rfl, by kernel_rfl⟩
theorem td_67 : TdOk Try.prog 67 ⟨.fn, 1, 8, [.one (.nilFn)]⟩ := ⟨by kernel_rfl, show _ = _ by kernel_rfl, by kernel_rfl, by kernel_rfl, by kernel_rfl⟩
theorem td_68 : TdOk Try.prog 68 ⟨.fn, 1, 8, [.one (.nilFn)]⟩ := ⟨by kernel_rfl, show _ = _ by kernel_rfl, by kernel_rfl, by kernel_rfl, by kernel_rfl⟩
theorem td_69 : TdOk Try.prog 69 ⟨.struct [], 0, 0, []⟩ := ⟨by kernel_rfl, show _ = _ by kernel_rfl, by kernel_rfl, by kernel_rfl, by kernel_rfl⟩
theorem td_70 : TdOk Try.prog 70 ⟨.struct [], 0, 0, []⟩ := ⟨by kernel_rfl, show _ = _ by kernel_rfl, by kernel_rfl, by kernel_rfl, by kernel_rfl⟩
theorem td_71 : TdOk Try.prog 71 ⟨.struct [], 0, 0, []⟩ := ⟨by kernel_rfl, show _ = _ by kernel_rfl, by kernel_rfl, by kernel_rfl, by kernel_rfl⟩
theorem td_72 : TdOk Try.prog 72 ⟨.int .u32, 1, 4, [.one (.w32 0)]⟩ := ⟨by kernel_rfl, show _ = _ by kernel_rfl, by kernel_rfl, by kernel_rfl, by kernel_rfl⟩
theorem td_73 : TdOk Try.prog 73 ⟨.struct [(71, 0), (72, 0)], 1, 4, [.one (.w32 0)]⟩ := ⟨by kernel_rfl, show _ = _ by kernel_rfl, by kernel_rfl, by kernel_rfl, by kernel_rfl⟩
theorem td_74 : TdOk Try.prog 74 ⟨.struct [(71, 0), (72, 0)], 1, 4, [.one (.w32 0)]⟩ := ⟨by kernel_rfl, show _ = _ by kernel_rfl, by kernel_rfl, by kernel_rfl, by kernel_rfl⟩
theorem td_75 : TdOk Try.prog 75 ⟨.struct [(21, 0), (72, 1)], 2, 8, [.one (.int .i32 0), .one (.w32 0)]⟩ := ⟨by kernel_rfl, show _ = _ by kernel_rfl, by kernel_rfl, by kernel_rfl, by kernel_rfl⟩
theorem td_76 : TdOk Try.prog 76 ⟨.struct [(21, 0), (72, 1)], 2, 8, [.one (.int .i32 0), .one (.w32 0)]⟩ := ⟨by kernel_rfl, show _ = _ by kernel_rfl, by kernel_rfl, by kernel_rfl, by kernel_rfl⟩
theorem td_77 : TdOk Try.prog 77 ⟨.struct [(70, 0), (76, 0)], 2, 8, [.one (.int .i32 0), .one (.w32 0)]⟩ := ⟨by kernel_rfl, show _ = _ by kernel_rfl, by kernel_rfl, by kernel_rfl, by kernel_rfl⟩
theorem td_78 : TdOk Try.prog 78 ⟨.struct [(70, 0), (76, 0)], 2, 8, [.one (.int .i32 0), .one (.w32 0)]⟩ := ⟨by kernel_rfl, show _ = _ by kernel_rfl, by kernel_rfl, by kernel_rfl, by kernel_rfl⟩
theorem td_79 : TdOk Try.prog 79 ⟨.struct [(70, 0), (74, 0), (78, 1)], 3, 12, [.one (.w32 0), .one (.int .i32 0), .one (.w32 0)]⟩ := ⟨by kernel_rfl, show _ = _ by kernel_rfl, by kernel_rfl, by kernel_rfl, by kernel_rfl⟩
theorem td_80 : TdOk Try.prog 80 ⟨.struct [(70, 0), (74, 0), (78, 1)], 3, 12, [.one (.w32 0), .one (.int .i32 0), .one (.w32 0)]⟩ := ⟨by kernel_rfl, show _ = _ by kernel_rfl, by kernel_rfl, by kernel_rfl, by kernel_rfl⟩
theorem td_81 : TdOk Try.prog 81 ⟨.array 256 5, 256, 256, [.row 256 (fun _ => .w8 0)]⟩ := ⟨by kernel_rfl, show _ = _ by kernel_rfl, by kernel_rfl, by kernel_rfl, by kernel_rfl⟩
theorem td_82 : TdOk Try.prog 82 ⟨.struct [], 0, 0, []⟩ := ⟨by kernel_rfl, show _ = _ by kernel_rfl, by kernel_rfl, by kernel_rfl, by kernel_rfl⟩
theorem td_83 : TdOk Try.prog 83 ⟨.struct [(71, 0), (82, 0), (2, 0)], 1, 8, [.one (.int .i64 0)]⟩ := ⟨by kernel_rfl, show _ = _ by kernel_rfl, by kernel_rfl, by kernel_rfl, by kernel_rfl⟩
theorem td_84 : TdOk Try.prog 84 ⟨.struct [(71, 0), (82, 0), (2, 0)], 1, 8, [.one (.int .i64 0)]⟩ := ⟨by kernel_rfl, show _ = _ by kernel_rfl, by kernel_rfl, by kernel_rfl, by kernel_rfl⟩
theorem td_85 : TdOk Try.prog 85 ⟨.struct [(80, 0), (81, 3), (84, 259)], 260, 280, [.one (.w32 0), .one (.int .i32 0), .one (.w32 0), .row 256 (fun _ => .w8 0), .one (.int .i64 0)]⟩ := ⟨by kernel_rfl, show _ = _ by kernel_rfl, by kernel_rfl, by kernel_rfl, by kernel_rfl⟩
theorem td_86 : TdOk Try.prog 86 ⟨.struct [(80, 0), (81, 3), (84, 259)], 260, 280, [.one (.w32 0), .one (.int .i32 0), .one (.w32 0), .row 256 (fun _ => .w8 0), .one (.int .i64 0)]⟩ := ⟨by kernel_rfl, show _ = _ by kernel_rfl, by kernel_rfl, by kernel_rfl, by kernel_rfl⟩
theorem td_87 : TdOk Try.prog 87 ⟨.fn, 1, 8, [.one (.nilFn)]⟩ := ⟨by kernel_rfl, show _ = _ by kernel_rfl, by kernel_rfl, by kernel_rfl, by kernel_rfl⟩
theorem td_88 : TdOk Try.prog 88 ⟨.array 11 23, 176, 176, [.row 176 (fun _ => .w8 0)]⟩ := ⟨by kernel_rfl, show _ = _ by kernel_rfl, by kernel_rfl, by kernel_rfl, by kernel_rfl⟩
theorem td_89 : TdOk Try.prog 89 ⟨.struct [(28, 0), (88, 1)], 177, 184, [.one (.ptr none), .row 176 (fun _ => .w8 0)]⟩ := ⟨by kernel_rfl, show _ = _ by kernel_rfl, by kernel_rfl, by kernel_rfl, by kernel_rfl⟩
theorem td_90 : TdOk Try.prog 90 ⟨.struct [(28, 0), (88, 1)], 177, 184, [.one (.ptr none), .row 176 (fun _ => .w8 0)]⟩ := ⟨by kernel_rfl, show _ = _ by kernel_rfl, by kernel_rfl, by kernel_rfl, by kernel_rfl⟩
theorem td_91 : TdOk Try.prog 91 ⟨.ptr 23, 1, 8, [.one (.ptr none)]⟩ := ⟨by kernel_rfl, show _ = _ by kernel_rfl, by kernel_rfl, by kernel_rfl, by kernel_rfl⟩
theorem td_92 : TdOk Try.prog 92 ⟨.fn, 1, 8, [.one (.nilFn)]⟩ := ⟨by kernel_rfl, show _ = _ by kernel_rfl, by kernel_rfl, by kernel_rfl, by kernel_rfl⟩
theorem td_93 : TdOk Try.prog 93 ⟨.fn, 1, 8, [.one (.nilFn)]⟩ := ⟨by kernel_rfl, show _ = _ by kernel_rfl, by kernel_rfl, by kernel_rfl, by kernel_rfl⟩
theorem td_94 : TdOk Try.prog 94 ⟨.int .u64, 1, 8, [.one (.w64 0)]⟩ := ⟨by kernel_rfl, show _ = _ by kernel_rfl, by kernel_rfl, by kernel_rfl, by kernel_rfl⟩
theorem td_95 : TdOk Try.prog 95 ⟨.array 8 72, 8, 32, [.row 8 (fun _ => .w32 0)]⟩ := ⟨by kernel_rfl, show _ = _ by kernel_rfl, by kernel_rfl, by kernel_rfl, by kernel_rfl⟩
theorem td_96 : TdOk Try.prog 96 ⟨.array 64 72, 64, 256, [.row 64 (fun _ => .w32 0)]⟩ := ⟨by kernel_rfl, show _ = _ by kernel_rfl, by kernel_rfl, by kernel_rfl, by kernel_rfl⟩
theorem td_97 : TdOk Try.prog 97 ⟨.struct [(80, 0), (95, 3), (96, 11)], 75, 300, [.one (.w32 0), .one (.int .i32 0), .one (.w32 0), .row 8 (fun _ => .w32 0), .row 64 (fun _ => .w32 0)]⟩ := ⟨by kernel_rfl, show _ = _ by kernel_rfl, by kernel_rfl, by kernel_rfl, by kernel_rfl⟩
theorem td_98 : TdOk Try.prog 98 ⟨.struct [(80, 0), (95, 3), (96, 11)], 75, 300, [.one (.w32 0), .one (.int .i32 0), .one (.w32 0), .row 8 (fun _ => .w32 0), .row 64 (fun _ => .w32 0)]⟩ := ⟨by kernel_rfl, show _ = _ by kernel_rfl, by kernel_rfl, by kernel_rfl, by kernel_rfl⟩
theorem td_99 : TdOk Try.prog 99 ⟨.slice 72, 1, 24, [.one (.slc none 0 0)]⟩ := ⟨by kernel_rfl, show _ = _ by kernel_rfl, by kernel_rfl, by kernel_rfl, by kernel_rfl⟩
theorem td_100 : TdOk Try.prog 100 ⟨.int .u64, 1, 8, [.one (.w64 0)]⟩ := ⟨by kernel_rfl, show _ = _ by kernel_rfl, by kernel_rfl, by kernel_rfl, by kernel_rfl⟩
theorem td_101 : TdOk Try.prog 101 ⟨.fn, 1, 8, [.one (.nilFn)]⟩ := ⟨by kernel_rfl, show _ = _ by kernel_rfl, by kernel_rfl, by kernel_rfl, by kernel_rfl⟩
theorem td_102 : TdOk Try.prog 102 ⟨.fn, 1, 8, [.one (.nilFn)]⟩ := ⟨by kernel_rfl, show _ = _ by kernel_rfl, by kernel_rfl, by kernel_rfl, by kernel_rfl⟩
theorem td_103 : TdOk Try.prog 103 ⟨.array 64 5, 64, 64, [.row 64 (fun _ => .w8 0)]⟩ := ⟨by kernel_rfl, show _ = _ by kernel_rfl, by kernel_rfl, by kernel_rfl, by kernel_rfl⟩
theorem td_104 : TdOk Try.prog 104 ⟨.struct [(42, 0), (95, 1), (103, 9), (3, 73), (100, 74)], 75, 120, [.one (.ptr none), .row 8 (fun _ => .w32 0), .row 64 (fun _ => .w8 0), .one (.int .i64 0), .one (.w64 0)]⟩ := ⟨by kernel_rfl, show _ = _ by kernel_rfl, by kernel_rfl, by kernel_rfl, by kernel_rfl⟩
theorem td_105 : TdOk Try.prog 105 ⟨.struct [(42, 0), (95, 1), (103, 9), (3, 73), (100, 74)], 75, 120, [.one (.ptr none), .row 8 (fun _ => .w32 0), .row 64 (fun _ => .w8 0), .one (.int .i64 0), .one (.w64 0)]⟩ := ⟨by kernel_rfl, show _ = _ by kernel_rfl, by kernel_rfl, by kernel_rfl, by kernel_rfl⟩
theorem td_106 : TdOk Try.prog 106 ⟨.fn, 1, 8, [.one (.nilFn)]⟩ := ⟨by kernel_rfl, show _ = _ by kernel_rfl, by kernel_rfl, by kernel_rfl, by kernel_rfl⟩
theorem td_107 : TdOk Try.prog 107 ⟨.fn, 1, 8, [.one (.nilFn)]⟩ := ⟨by kernel_rfl, show _ = _ by kernel_rfl, by kernel_rfl, by kernel_rfl, by kernel_rfl⟩
theorem td_108 : TdOk Try.prog 108 ⟨.fn, 1, 8, [.one (.nilFn)]⟩ := ⟨by kernel_rfl, show _ = _ by kernel_rfl, by kernel_rfl, by kernel_rfl, by kernel_rfl⟩
theorem td_109 : TdOk Try.prog 109 ⟨.struct [(98, 0)], 75, 300, [.one (.w32 0), .one (.int .i32 0), .one (.w32 0), .row 8 (fun _ => .w32 0), .row 64 (fun _ => .w32 0)]⟩ := ⟨by kernel_rfl, show _ = _ by kernel_rfl, by kernel_rfl, by kernel_rfl, by kernel_rfl⟩
theorem td_110 : TdOk Try.prog 110 ⟨.struct [(98, 0)], 75, 300, [.one (.w32 0), .one (.int .i32 0), .one (.w32 0), .row 8 (fun _ => .w32 0), .row 64 (fun _ => .w32 0)]⟩ := ⟨by kernel_rfl, show _ = _ by kernel_rfl, by kernel_rfl, by kernel_rfl, by kernel_rfl⟩
theorem td_111 : TdOk Try.prog 111 ⟨.ptr 80, 1, 8, [.one (.ptr none)]⟩ := ⟨by kernel_rfl, show _ = _ by kernel_rfl, by kernel_rfl, by kernel_rfl, by kernel_rfl⟩
theorem td_112 : TdOk Try.prog 112 ⟨.fn, 1, 8, [.one (.nilFn)]⟩ := ⟨by kernel_rfl, show _ = _ by kernel_rfl, by kernel_rfl, by kernel_rfl, by kernel_rfl⟩
theorem td_113 : TdOk Try.prog 113 ⟨.ptr 84, 1, 8, [.one (.ptr none)]⟩ := ⟨by kernel_rfl, show _ = _ by kernel_rfl, by kernel_rfl, by kernel_rfl, by kernel_rfl⟩
theorem td_114 : TdOk Try.prog 114 ⟨.fn, 1, 8, [.one (.nilFn)]⟩ := ⟨by kernel_rfl, show _ = _ by kernel_rfl, by kernel_rfl, by kernel_rfl, by kernel_rfl⟩
theorem td_115 : TdOk Try.prog 115 ⟨.ptr 2, 1, 8, [.one (.ptr none)]⟩ := ⟨by kernel_rfl, show _ = _ by kernel_rfl, by kernel_rfl, by kernel_rfl, by kernel_rfl⟩
theorem td_116 : TdOk Try.prog 116 ⟨.fn, 1, 8, [.one (.nilFn)]⟩ := ⟨by kernel_rfl, show _ = _ by kernel_rfl, by kernel_rfl, by kernel_rfl, by kernel_rfl⟩
theorem td_117 : TdOk Try.prog 117 ⟨.ptr 105, 1, 8, [.one (.ptr none)]⟩ := ⟨by kernel_rfl, show _ = _ by kernel_rfl, by kernel_rfl, by kernel_rfl, by kernel_rfl⟩
theorem td_118 : TdOk Try.prog 118 ⟨.ptr 74, 1, 8, [.one (.ptr none)]⟩ := ⟨by kernel_rfl, show _ = _ by kernel_rfl, by kernel_rfl, by kernel_rfl, by kernel_rfl⟩
theorem td_119 : TdOk Try.prog 119 ⟨.fn, 1, 8, [.one (.nilFn)]⟩ := ⟨by kernel_rfl, show _ = _ by kernel_rfl, by kernel_rfl, by kernel_rfl, by kernel_rfl⟩
theorem td_120 : TdOk Try.prog 120 ⟨.ptr 72, 1, 8, [.one (.ptr none)]⟩ := ⟨by kernel_rfl, show _ = _ by kernel_rfl, by kernel_rfl, by kernel_rfl, by kernel_rfl⟩
theorem td_121 : TdOk Try.prog 121 ⟨.fn, 1, 8, [.one (.nilFn)]⟩ := ⟨by kernel_rfl, show _ = _ by kernel_rfl, by kernel_rfl, by kernel_rfl, by kernel_rfl⟩
theorem td_122 : TdOk Try.prog 122 ⟨.fn, 1, 8, [.one (.nilFn)]⟩ := ⟨by kernel_rfl, show _ = _ by kernel_rfl, by kernel_rfl, by kernel_rfl, by kernel_rfl⟩
theorem td_123 : TdOk Try.prog 123 ⟨.fn, 1, 8, [.one (.nilFn)]⟩ := ⟨by kernel_rfl, show _ = _ by kernel_rfl, by kernel_rfl, by kernel_rfl, by kernel_rfl⟩
theorem td_124 : TdOk Try.prog 124 ⟨.ptr 78, 1, 8, [.one (.ptr none)]⟩ := ⟨by kernel_rfl, show _ = _ by kernel_rfl, by kernel_rfl, by kernel_rfl, by kernel_rfl⟩
theorem td_125 : TdOk Try.prog 125 ⟨.fn, 1, 8, [.one (.nilFn)]⟩ := ⟨by kernel_rfl, show _ = _ by kernel_rfl, by kernel_rfl, by kernel_rfl, by kernel_rfl⟩
theorem td_126 : TdOk Try.prog 126 ⟨.fn, 1, 8, [.one (.nilFn)]⟩ := ⟨by kernel_rfl, show _ = _ by kernel_rfl, by kernel_rfl, by kernel_rfl, by kernel_rfl⟩
theorem td_128 : TdOk Try.prog 128 ⟨.fn, 1, 8, [.one (.nilFn)]⟩ := ⟨by kernel_rfl, show _ = _ by kernel_rfl, by kernel_rfl, by kernel_rfl, by kernel_rfl⟩
theorem td_129 : TdOk Try.prog 129 ⟨.ptr 76, 1, 8, [.one (.ptr none)]⟩ := ⟨by kernel_rfl, show _ = _ by kernel_rfl, by kernel_rfl, by kernel_rfl, by kernel_rfl⟩
theorem td_130 : TdOk Try.prog 130 ⟨.fn, 1, 8, [.one (.nilFn)]⟩ := ⟨by kernel_rfl, show _ = _ by kernel_rfl, by kernel_rfl, by kernel_rfl, by kernel_rfl⟩
theorem td_131 : TdOk Try.prog 131 ⟨.ptr 21, 1, 8, [.one (.ptr none)]⟩ := ⟨by kernel_rfl, show _ = _ by kernel_rfl, by kernel_rfl, by kernel_rfl, by kernel_rfl⟩
theorem td_132 : TdOk Try.prog 132 ⟨.fn, 1, 8, [.one (.nilFn)]⟩ := ⟨by kernel_rfl, show _ = _ by kernel_rfl, by kernel_rfl, by kernel_rfl, by kernel_rfl⟩
theorem td_134 : TdOk Try.prog 134 ⟨.fn, 1, 8, [.one (.nilFn)]⟩ := ⟨by kernel_rfl, show _ = _ by kernel_rfl, by kernel_rfl, by kernel_rfl, by kernel_rfl⟩
theorem td_135 : TdOk Try.prog 135 ⟨.fn, 1, 8, [.one (.nilFn)]⟩ := ⟨by kernel_rfl, show _ = _ by kernel_rfl, by kernel_rfl, by kernel_rfl, by kernel_rfl⟩
theorem td_136 : TdOk Try.prog 136 ⟨.fn, 1, 8, [.one (.nilFn)]⟩ := ⟨by kernel_rfl, show _ = _ by kernel_rfl, by kernel_rfl, by kernel_rfl, by kernel_rfl⟩
theorem td_137 : TdOk Try.prog 137 ⟨.fn, 1, 8, [.one (.nilFn)]⟩ := ⟨by kernel_rfl, show _ = _ by kernel_rfl, by kernel_rfl, by kernel_rfl, by kernel_rfl⟩
theorem td_138 : TdOk Try.prog 138 ⟨.fn, 1, 8, [.one (.nilFn)]⟩ := ⟨by kernel_rfl, show _ = _ by kernel_rfl, by kernel_rfl, by kernel_rfl, by kernel_rfl⟩
theorem td_139 : TdOk Try.prog 139 ⟨.fn, 1, 8, [.one (.nilFn)]⟩ := ⟨by kernel_rfl, show _ = _ by kernel_rfl, by kernel_rfl, by kernel_rfl, by kernel_rfl⟩
theorem td_140 : TdOk Try.prog 140 ⟨.struct [(17, 0), (17, 1), (17, 2), (9, 3)], 4, 40, [.one (.ptr none), .one (.ptr none), .one (.ptr none), .one (.str [])]⟩ := ⟨by kernel_rfl, show _ = _ by kernel_rfl, by kernel_rfl, by kernel_rfl, by kernel_rfl⟩
theorem td_141 : TdOk Try.prog 141 ⟨.struct [(17, 0), (17, 1), (17, 2), (9, 3)], 4, 40, [.one (.ptr none), .one (.ptr none), .one (.ptr none), .one (.str [])]⟩ := ⟨by kernel_rfl, show _ = _ by kernel_rfl, by kernel_rfl, by kernel_rfl, by kernel_rfl⟩
theorem td_142 : TdOk Try.prog 142 ⟨.array 0 16, 0, 0, [.row 0 (fun _ => .ptr none)]⟩ := ⟨by kernel_rfl, show _ = _ by kernel_rfl, by kernel_rfl, by kernel_rfl, by kernel_rfl⟩
theorem td_143 : TdOk Try.prog 143 ⟨.struct [(142, 0)], 0, 0, [.row 0 (fun _ => .ptr none)]⟩ := ⟨by kernel_rfl, show _ = _ by kernel_rfl, by kernel_rfl, by kernel_rfl, by kernel_rfl⟩
theorem td_144 : TdOk Try.prog 144 ⟨.struct [(142, 0)], 0, 0, [.row 0 (fun _ => .ptr none)]⟩ := ⟨by kernel_rfl, show _ = _ by kernel_rfl, by kernel_rfl, by kernel_rfl, by kernel_rfl⟩
theorem td_145 : TdOk Try.prog 145 ⟨.fn, 1, 8, [.one (.nilFn)]⟩ := ⟨by kernel_rfl, show _ = _ by kernel_rfl, by kernel_rfl, by kernel_rfl, by kernel_rfl⟩
theorem td_146 : TdOk Try.prog 146 ⟨.int .u8, 1, 1, [.one (.w8 0)]⟩ := ⟨by kernel_rfl, show _ = _ by kernel_rfl, by kernel_rfl, by kernel_rfl, by kernel_rfl⟩
theorem td_147 : TdOk Try.prog 147 ⟨.int .u8, 1, 1, [.one (.w8 0)]⟩ := ⟨by kernel_rfl, show _ = _ by kernel_rfl, by kernel_rfl, by kernel_rfl, by kernel_rfl⟩
theorem td_148 : TdOk Try.prog 148 ⟨.fn, 1, 8, [.one (.nilFn)]⟩ := ⟨by kernel_rfl, show _ = _ by kernel_rfl, by kernel_rfl, by kernel_rfl, by kernel_rfl⟩
theorem td_149 : TdOk Try.prog 149 ⟨.ptr 5, 1, 8, [.one (.ptr none)]⟩ := ⟨by kernel_rfl, show _ = _ by kernel_rfl, by kernel_rfl, by kernel_rfl, by kernel_rfl⟩
theorem td_150 : TdOk Try.prog 150 ⟨.int .i32, 1, 4, [.one (.int .i32 0)]⟩ := ⟨by kernel_rfl, show _ = _ by kernel_rfl, by kernel_rfl, by kernel_rfl, by kernel_rfl⟩
theorem td_151 : TdOk Try.prog 151 ⟨.int .i32, 1, 4, [.one (.int .i32 0)]⟩ := ⟨by kernel_rfl, show _ = _ by kernel_rfl, by kernel_rfl, by kernel_rfl, by kernel_rfl⟩
theorem td_152 : TdOk Try.prog 152 ⟨.struct [(12, 0), (12, 1), (72, 2), (146, 3), (5, 4), (5, 5), (147, 6), (148, 7), (149, 8), (150, 9), (151, 10)], 11, 48, [.one (.w64 0), .one (.w64 0), .one (.w32 0), .one (.w8 0), .one (.w8 0), .one (.w8 0), .one (.w8 0), .one (.nilFn), .one (.ptr none), .one (.int .i32 0), .one (.int .i32 0)]⟩ := ⟨by kernel_rfl, show _ = _ by kernel_rfl, by kernel_rfl, by kernel_rfl, by kernel_rfl⟩
theorem td_153 : TdOk Try.prog 153 ⟨.struct [(12, 0), (12, 1), (72, 2), (146, 3), (5, 4), (5, 5), (147, 6), (148, 7), (149, 8), (150, 9), (151, 10)], 11, 48, [.one (.w64 0), .one (.w64 0), .one (.w32 0), .one (.w8 0), .one (.w8 0), .one (.w8 0), .one (.w8 0), .one (.nilFn), .one (.ptr none), .one (.int .i32 0), .one (.int .i32 0)]⟩ := ⟨by kernel_rfl, show _ = _ by kernel_rfl, by kernel_rfl, by kernel_rfl, by kernel_rfl⟩
theorem tds_ok : AllT Try.prog tds := ⟨td_1, td_2, td_3, td_4, td_5, td_6, td_7, td_8, td_9, td_10, td_11, td_12, td_13, td_14, td_15, td_16, td_17, td_18, td_19, td_20, td_21, td_22, td_23, td_24, td_25, td_26, td_27, td_28, td_29, td_30, td_31, td_32, td_33, td_34, td_35, td_36, td_38, td_39, td_40, td_41, td_42, td_43, td_44, td_45, td_46, td_47, td_48, td_49, td_50, td_51, td_52, td_53, td_54, td_55, td_56, td_58, td_59, td_60, td_61, td_62, td_63, td_64, td_65, td_66, td_67, td_68, td_69, td_70, td_71, td_72, td_73, td_74, td_75, td_76, td_77, td_78, td_79, td_80, td_81, td_82, td_83, td_84, td_85, td_86, td_87, td_88, td_89, td_90, td_91, td_92, td_93, td_94, td_95, td_96, td_97, td_98, td_99, td_100, td_101, td_102, td_103, td_104, td_105, td_106, td_107, td_108, td_109, td_110, td_111, td_112, td_113, td_114, td_115, td_116, td_117, td_118, td_119, td_120, td_121, td_122, td_123, td_124, td_125, td_126, td_128, td_129, td_130, td_131, td_132, td_134, td_135, td_136, td_137, td_138, td_139, td_140, td_141, td_142, td_143, td_144, td_145, td_146, td_147, td_148, td_149, td_150, td_151, td_152, td_153, trivial⟩
end Sx
end Go.Proofs.Ytngajbgfnmahdaa
