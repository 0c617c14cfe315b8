/- The types of this seat, as the executor wants them. -/
import Derived.Test.YtlkhjalnnciocaaGreatFm5
import Derived.Test.YtlkhjalnnciocaaGreatProg
namespace Go.Fw
open Go.Proofs
def tbl : List (Nat × TI) := [
  (2, .int .i64),
  (3, .int .i64),
  (4, .bool),
  (5, .int .u8),
  (9, .sc (.v (.string ⟨#[]⟩))),
  (22, .slc 1 8 (.v (.int .i64 0))),
  (23, .int .u16),
  (24, .slc 17 17 (.agg [.v (.int .u8 0), .ba 16 [0, 0, 0, 0, 0, 0, 0, 0, 0, 0, 0, 0, 0, 0, 0, 0]])),
  (25, .int .u32),
  (26, .slc 6 40 (.agg [.agg [.v (.int .i64 0), .v (.int .u16 0), .v (.int .u64 0)], .v (.int .u8 0), .v (.int .u32 0), .v (.int .u32 0)])),
  (28, .str [(0, 1), (1, 1), (2, 1), (3, 1), (4, 1)] [24, 25, 25, 25, 26] (.agg [.v (.slice none 0 0), .v (.int .u32 0), .v (.int .u32 0), .v (.int .u32 0), .v (.slice none 0 0)])),
  (31, .slc 1 24 (.v (.slice none 0 0))),
  (34, .slc 1 1 (.v (.int .u8 0))),
  (35, .ptr 2),
  (39, .int .u64),
  (48, .int .u16),
  (49, .int .u64),
  (50, .int .u64),
  (52, .str [(0, 1), (1, 1), (2, 1)] [3, 48, 50] (.agg [.v (.int .i64 0), .v (.int .u16 0), .v (.int .u64 0)])),
  (54, .str [(0, 1), (1, 1), (2, 1), (3, 1), (4, 1), (5, 1), (6, 3), (9, 3), (12, 1), (13, 1), (14, 1), (15, 1)] [3, 4, 4, 4, 5, 23, 52, 52, 25, 5, 34, 34] (.agg [.v (.int .i64 0), .v (.bool false), .v (.bool false), .v (.bool false), .v (.int .u8 0), .v (.int .u16 0), .agg [.v (.int .i64 0), .v (.int .u16 0), .v (.int .u64 0)], .agg [.v (.int .i64 0), .v (.int .u16 0), .v (.int .u64 0)], .v (.int .u32 0), .v (.int .u8 0), .v (.slice none 0 0), .v (.slice none 0 0)])),
  (55, .int .i64),
  (64, .slc 1 1 (.v (.bool false))),
  (67, .arr 16 1 5 (.ba 16 [0, 0, 0, 0, 0, 0, 0, 0, 0, 0, 0, 0, 0, 0, 0, 0])),
  (70, .str [(0, 16), (16, 1)] [67, 3] (.agg [.ba 16 [0, 0, 0, 0, 0, 0, 0, 0, 0, 0, 0, 0, 0, 0, 0, 0], .v (.int .i64 0)])),
  (97, .slc 20 48 (.agg [.v (.int .i64 0), .agg [.ba 16 [0, 0, 0, 0, 0, 0, 0, 0, 0, 0, 0, 0, 0, 0, 0, 0], .v (.int .i64 0)], .v (.bool false), .v (.int .i64 0)])),
  (101, .str [(0, 1), (1, 17), (18, 1), (19, 1)] [3, 70, 4, 3] (.agg [.v (.int .i64 0), .agg [.ba 16 [0, 0, 0, 0, 0, 0, 0, 0, 0, 0, 0, 0, 0, 0, 0, 0], .v (.int .i64 0)], .v (.bool false), .v (.int .i64 0)])),
  (107, .str [(0, 1), (1, 1), (2, 1), (3, 1), (4, 16), (20, 16), (36, 1), (37, 1), (38, 1)] [5, 25, 5, 5, 67, 67, 23, 23, 34] (.agg [.v (.int .u8 0), .v (.int .u32 0), .v (.int .u8 0), .v (.int .u8 0), .ba 16 [0, 0, 0, 0, 0, 0, 0, 0, 0, 0, 0, 0, 0, 0, 0, 0], .ba 16 [0, 0, 0, 0, 0, 0, 0, 0, 0, 0, 0, 0, 0, 0, 0, 0], .v (.int .u16 0), .v (.int .u16 0), .v (.slice none 0 0)])),
  (118, .slc 10 96 (.agg [.agg [.v (.int .i64 0), .v (.int .u16 0), .v (.int .u64 0)], .agg [.v (.int .i64 0), .v (.int .u16 0), .v (.int .u64 0)], .v (.int .u16 0), .v (.int .i64 0), .v (.slice none 0 0), .v (.int .i64 0)])),
  (120, .str [(0, 1), (1, 1), (2, 1), (3, 1)] [3, 23, 3, 34] (.agg [.v (.int .i64 0), .v (.int .u16 0), .v (.int .i64 0), .v (.slice none 0 0)])),
  (126, .arr 16 1 5 (.ba 16 [0, 0, 0, 0, 0, 0, 0, 0, 0, 0, 0, 0, 0, 0, 0, 0])),
  (129, .str [(0, 1), (1, 16)] [5, 126] (.agg [.v (.int .u8 0), .ba 16 [0, 0, 0, 0, 0, 0, 0, 0, 0, 0, 0, 0, 0, 0, 0, 0]])),
  (132, .str [(0, 1), (1, 1)] [22, 3] (.agg [.v (.slice none 0 0), .v (.int .i64 0)])),
  (148, .str [(0, 3), (3, 1), (4, 1), (5, 1)] [52, 5, 25, 25] (.agg [.agg [.v (.int .i64 0), .v (.int .u16 0), .v (.int .u64 0)], .v (.int .u8 0), .v (.int .u32 0), .v (.int .u32 0)])),
  (161, .slc 1 8 (.v (.int .u64 0))),
  (194, .slc 4 48 (.agg [.v (.int .i64 0), .v (.int .u16 0), .v (.int .i64 0), .v (.slice none 0 0)])),
  (203, .str [(0, 3), (3, 3), (6, 1), (7, 1), (8, 1), (9, 1)] [52, 52, 23, 3, 194, 3] (.agg [.agg [.v (.int .i64 0), .v (.int .u16 0), .v (.int .u64 0)], .agg [.v (.int .i64 0), .v (.int .u16 0), .v (.int .u64 0)], .v (.int .u16 0), .v (.int .i64 0), .v (.slice none 0 0), .v (.int .i64 0)])),
  (238, .arr 2 1 5 (.ba 2 [0, 0])),
  (249, .str [(0, 1), (1, 1), (2, 1), (3, 1)] [4, 3, 3, 34] (.agg [.v (.bool false), .v (.int .i64 0), .v (.int .i64 0), .v (.slice none 0 0)])),
  (255, .ptr 2),
  (257, .str [(0, 1), (1, 1)] [34, 3] (.agg [.v (.slice none 0 0), .v (.int .i64 0)])),
  (268, .arr 2 1 3 (.agg [.v (.int .i64 0), .v (.int .i64 0)])),
  (269, .arr 3 2 268 (.agg [.agg [.v (.int .i64 0), .v (.int .i64 0)], .agg [.v (.int .i64 0), .v (.int .i64 0)], .agg [.v (.int .i64 0), .v (.int .i64 0)]])),
  (270, .arr 3 1 49 (.agg [.v (.int .u64 0), .v (.int .u64 0), .v (.int .u64 0)])),
  (275, .arr 5 1 5 (.ba 5 [0, 0, 0, 0, 0])),
  (280, .str [(0, 1), (1, 1)] [34, 4] (.agg [.v (.slice none 0 0), .v (.bool false)])),
  (281, .arr 2 3 52 (.agg [.agg [.v (.int .i64 0), .v (.int .u16 0), .v (.int .u64 0)], .agg [.v (.int .i64 0), .v (.int .u16 0), .v (.int .u64 0)]])),
  (284, .arr 4 1 49 (.agg [.v (.int .u64 0), .v (.int .u64 0), .v (.int .u64 0), .v (.int .u64 0)])),
  (285, .arr 4 1 49 (.agg [.v (.int .u64 0), .v (.int .u64 0), .v (.int .u64 0), .v (.int .u64 0)])),
  (304, .arr 4 1 3 (.agg [.v (.int .i64 0), .v (.int .i64 0), .v (.int .i64 0), .v (.int .i64 0)])),
  (305, .slc 2 16 (.agg [.v (.int .u64 0), .v (.int .i64 0)])),
  (307, .str [(0, 1), (1, 1)] [49, 3] (.agg [.v (.int .u64 0), .v (.int .i64 0)])),
  (312, .ptr 2)]
def tt (t : Nat) : TI := lkT tbl t
theorem tiok2 : TIok Tryz.prog 2 (.int .i64) := ⟨fun _ => ⟨⟨8, by unfold infoIs; kernel_rfl⟩, by kernel_rfl⟩, show (Tryz.prog).underlying 2 = some (.int .i64) from by kernel_rfl⟩
theorem tiok3 : TIok Tryz.prog 3 (.int .i64) := ⟨fun _ => ⟨⟨8, by unfold infoIs; kernel_rfl⟩, by kernel_rfl⟩, show (Tryz.prog).underlying 3 = some (.int .i64) from by kernel_rfl⟩
theorem tiok4 : TIok Tryz.prog 4 (.bool) := ⟨fun _ => ⟨⟨1, by unfold infoIs; kernel_rfl⟩, by kernel_rfl⟩, show (Tryz.prog).underlying 4 = some .bool from by kernel_rfl⟩
theorem tiok5 : TIok Tryz.prog 5 (.int .u8) := ⟨fun _ => ⟨⟨1, by unfold infoIs; kernel_rfl⟩, by kernel_rfl⟩, show (Tryz.prog).underlying 5 = some (.int .u8) from by kernel_rfl⟩
theorem tiok9 : TIok Tryz.prog 9 (.sc (.v (.string ⟨#[]⟩))) := ⟨fun _ => ⟨⟨16, by unfold infoIs; kernel_rfl⟩, by kernel_rfl⟩, ⟨rfl, ⟨.string, by kernel_rfl, rfl⟩, fun _ _ => by kernel_rfl⟩⟩
theorem tiok22 : TIok Tryz.prog 22 (.slc 1 8 (.v (.int .i64 0))) := ⟨fun _ => ⟨⟨24, by unfold infoIs; kernel_rfl⟩, by kernel_rfl⟩, ⟨3, by kernel_rfl, by unfold infoIs; kernel_rfl, by kernel_rfl, by kernel_rfl, fun h => by cases h⟩⟩
theorem tiok23 : TIok Tryz.prog 23 (.int .u16) := ⟨fun _ => ⟨⟨2, by unfold infoIs; kernel_rfl⟩, by kernel_rfl⟩, show (Tryz.prog).underlying 23 = some (.int .u16) from by kernel_rfl⟩
theorem tiok24 : TIok Tryz.prog 24 (.slc 17 17 (.agg [.v (.int .u8 0), .ba 16 [0, 0, 0, 0, 0, 0, 0, 0, 0, 0, 0, 0, 0, 0, 0, 0]])) := ⟨fun _ => ⟨⟨24, by unfold infoIs; kernel_rfl⟩, by kernel_rfl⟩, ⟨129, by kernel_rfl, by unfold infoIs; kernel_rfl, by kernel_rfl, by kernel_rfl, fun h => by cases h⟩⟩
theorem tiok25 : TIok Tryz.prog 25 (.int .u32) := ⟨fun _ => ⟨⟨4, by unfold infoIs; kernel_rfl⟩, by kernel_rfl⟩, show (Tryz.prog).underlying 25 = some (.int .u32) from by kernel_rfl⟩
theorem tiok26 : TIok Tryz.prog 26 (.slc 6 40 (.agg [.agg [.v (.int .i64 0), .v (.int .u16 0), .v (.int .u64 0)], .v (.int .u8 0), .v (.int .u32 0), .v (.int .u32 0)])) := ⟨fun _ => ⟨⟨24, by unfold infoIs; kernel_rfl⟩, by kernel_rfl⟩, ⟨148, by kernel_rfl, by unfold infoIs; kernel_rfl, by kernel_rfl, by kernel_rfl, fun h => by cases h⟩⟩
theorem tiok28 : TIok Tryz.prog 28 (.str [(0, 1), (1, 1), (2, 1), (3, 1), (4, 1)] [24, 25, 25, 25, 26] (.agg [.v (.slice none 0 0), .v (.int .u32 0), .v (.int .u32 0), .v (.int .u32 0), .v (.slice none 0 0)])) := ⟨fun _ => ⟨⟨64, by unfold infoIs; kernel_rfl⟩, by kernel_rfl⟩, ⟨by kernel_rfl, ⟨_, rfl, by kernel_rfl⟩, fun _ => ⟨by kernel_rfl, by kernel_rfl, by kernel_rfl⟩⟩⟩
theorem tiok31 : TIok Tryz.prog 31 (.slc 1 24 (.v (.slice none 0 0))) := ⟨fun _ => ⟨⟨24, by unfold infoIs; kernel_rfl⟩, by kernel_rfl⟩, ⟨34, by kernel_rfl, by unfold infoIs; kernel_rfl, by kernel_rfl, by kernel_rfl, fun h => by cases h⟩⟩
theorem tiok34 : TIok Tryz.prog 34 (.slc 1 1 (.v (.int .u8 0))) := ⟨fun _ => ⟨⟨24, by unfold infoIs; kernel_rfl⟩, by kernel_rfl⟩, ⟨5, by kernel_rfl, by unfold infoIs; kernel_rfl, by kernel_rfl, by kernel_rfl, fun _ => by kernel_rfl⟩⟩
theorem tiok35 : TIok Tryz.prog 35 (.ptr 2) := ⟨fun _ => ⟨⟨8, by unfold infoIs; kernel_rfl⟩, by kernel_rfl⟩, ⟨132, by kernel_rfl⟩⟩
theorem tiok39 : TIok Tryz.prog 39 (.int .u64) := ⟨fun _ => ⟨⟨8, by unfold infoIs; kernel_rfl⟩, by kernel_rfl⟩, show (Tryz.prog).underlying 39 = some (.int .u64) from by kernel_rfl⟩
theorem tiok48 : TIok Tryz.prog 48 (.int .u16) := ⟨fun _ => ⟨⟨2, by unfold infoIs; kernel_rfl⟩, by kernel_rfl⟩, show (Tryz.prog).underlying 48 = some (.int .u16) from by kernel_rfl⟩
theorem tiok49 : TIok Tryz.prog 49 (.int .u64) := ⟨fun _ => ⟨⟨8, by unfold infoIs; kernel_rfl⟩, by kernel_rfl⟩, show (Tryz.prog).underlying 49 = some (.int .u64) from by kernel_rfl⟩
theorem tiok50 : TIok Tryz.prog 50 (.int .u64) := ⟨fun _ => ⟨⟨8, by unfold infoIs; kernel_rfl⟩, by kernel_rfl⟩, show (Tryz.prog).underlying 50 = some (.int .u64) from by kernel_rfl⟩
theorem tiok52 : TIok Tryz.prog 52 (.str [(0, 1), (1, 1), (2, 1)] [3, 48, 50] (.agg [.v (.int .i64 0), .v (.int .u16 0), .v (.int .u64 0)])) := ⟨fun _ => ⟨⟨24, by unfold infoIs; kernel_rfl⟩, by kernel_rfl⟩, ⟨by kernel_rfl, ⟨_, rfl, by kernel_rfl⟩, fun _ => ⟨by kernel_rfl, by kernel_rfl, by kernel_rfl⟩⟩⟩
theorem tiok54 : TIok Tryz.prog 54 (.str [(0, 1), (1, 1), (2, 1), (3, 1), (4, 1), (5, 1), (6, 3), (9, 3), (12, 1), (13, 1), (14, 1), (15, 1)] [3, 4, 4, 4, 5, 23, 52, 52, 25, 5, 34, 34] (.agg [.v (.int .i64 0), .v (.bool false), .v (.bool false), .v (.bool false), .v (.int .u8 0), .v (.int .u16 0), .agg [.v (.int .i64 0), .v (.int .u16 0), .v (.int .u64 0)], .agg [.v (.int .i64 0), .v (.int .u16 0), .v (.int .u64 0)], .v (.int .u32 0), .v (.int .u8 0), .v (.slice none 0 0), .v (.slice none 0 0)])) := ⟨fun _ => ⟨⟨120, by unfold infoIs; kernel_rfl⟩, by kernel_rfl⟩, ⟨by kernel_rfl, ⟨_, rfl, by kernel_rfl⟩, fun _ => ⟨by kernel_rfl, by kernel_rfl, by kernel_rfl⟩⟩⟩
theorem tiok55 : TIok Tryz.prog 55 (.int .i64) := ⟨fun _ => ⟨⟨8, by unfold infoIs; kernel_rfl⟩, by kernel_rfl⟩, show (Tryz.prog).underlying 55 = some (.int .i64) from by kernel_rfl⟩
theorem tiok64 : TIok Tryz.prog 64 (.slc 1 1 (.v (.bool false))) := ⟨fun _ => ⟨⟨24, by unfold infoIs; kernel_rfl⟩, by kernel_rfl⟩, ⟨4, by kernel_rfl, by unfold infoIs; kernel_rfl, by kernel_rfl, by kernel_rfl, fun h => by cases h⟩⟩
theorem tiok67 : TIok Tryz.prog 67 (.arr 16 1 5 (.ba 16 [0, 0, 0, 0, 0, 0, 0, 0, 0, 0, 0, 0, 0, 0, 0, 0])) := ⟨fun _ => ⟨⟨16, by unfold infoIs; kernel_rfl⟩, by kernel_rfl⟩, ⟨by kernel_rfl, ⟨1, toVal (.v (.int .u8 0)), by unfold infoIs; kernel_rfl⟩, by kernel_rfl⟩⟩
theorem tiok70 : TIok Tryz.prog 70 (.str [(0, 16), (16, 1)] [67, 3] (.agg [.ba 16 [0, 0, 0, 0, 0, 0, 0, 0, 0, 0, 0, 0, 0, 0, 0, 0], .v (.int .i64 0)])) := ⟨fun _ => ⟨⟨24, by unfold infoIs; kernel_rfl⟩, by kernel_rfl⟩, ⟨by kernel_rfl, ⟨_, rfl, by kernel_rfl⟩, fun _ => ⟨by kernel_rfl, by kernel_rfl, by kernel_rfl⟩⟩⟩
theorem tiok97 : TIok Tryz.prog 97 (.slc 20 48 (.agg [.v (.int .i64 0), .agg [.ba 16 [0, 0, 0, 0, 0, 0, 0, 0, 0, 0, 0, 0, 0, 0, 0, 0], .v (.int .i64 0)], .v (.bool false), .v (.int .i64 0)])) := ⟨fun _ => ⟨⟨24, by unfold infoIs; kernel_rfl⟩, by kernel_rfl⟩, ⟨101, by kernel_rfl, by unfold infoIs; kernel_rfl, by kernel_rfl, by kernel_rfl, fun h => by cases h⟩⟩
theorem tiok101 : TIok Tryz.prog 101 (.str [(0, 1), (1, 17), (18, 1), (19, 1)] [3, 70, 4, 3] (.agg [.v (.int .i64 0), .agg [.ba 16 [0, 0, 0, 0, 0, 0, 0, 0, 0, 0, 0, 0, 0, 0, 0, 0], .v (.int .i64 0)], .v (.bool false), .v (.int .i64 0)])) := ⟨fun _ => ⟨⟨48, by unfold infoIs; kernel_rfl⟩, by kernel_rfl⟩, ⟨by kernel_rfl, ⟨_, rfl, by kernel_rfl⟩, fun _ => ⟨by kernel_rfl, by kernel_rfl, by kernel_rfl⟩⟩⟩
theorem tiok107 : TIok Tryz.prog 107 (.str [(0, 1), (1, 1), (2, 1), (3, 1), (4, 16), (20, 16), (36, 1), (37, 1), (38, 1)] [5, 25, 5, 5, 67, 67, 23, 23, 34] (.agg [.v (.int .u8 0), .v (.int .u32 0), .v (.int .u8 0), .v (.int .u8 0), .ba 16 [0, 0, 0, 0, 0, 0, 0, 0, 0, 0, 0, 0, 0, 0, 0, 0], .ba 16 [0, 0, 0, 0, 0, 0, 0, 0, 0, 0, 0, 0, 0, 0, 0, 0], .v (.int .u16 0), .v (.int .u16 0), .v (.slice none 0 0)])) := ⟨fun _ => ⟨⟨72, by unfold infoIs; kernel_rfl⟩, by kernel_rfl⟩, ⟨by kernel_rfl, ⟨_, rfl, by kernel_rfl⟩, fun _ => ⟨by kernel_rfl, by kernel_rfl, by kernel_rfl⟩⟩⟩
theorem tiok118 : TIok Tryz.prog 118 (.slc 10 96 (.agg [.agg [.v (.int .i64 0), .v (.int .u16 0), .v (.int .u64 0)], .agg [.v (.int .i64 0), .v (.int .u16 0), .v (.int .u64 0)], .v (.int .u16 0), .v (.int .i64 0), .v (.slice none 0 0), .v (.int .i64 0)])) := ⟨fun _ => ⟨⟨24, by unfold infoIs; kernel_rfl⟩, by kernel_rfl⟩, ⟨203, by kernel_rfl, by unfold infoIs; kernel_rfl, by kernel_rfl, by kernel_rfl, fun h => by cases h⟩⟩
theorem tiok120 : TIok Tryz.prog 120 (.str [(0, 1), (1, 1), (2, 1), (3, 1)] [3, 23, 3, 34] (.agg [.v (.int .i64 0), .v (.int .u16 0), .v (.int .i64 0), .v (.slice none 0 0)])) := ⟨fun _ => ⟨⟨48, by unfold infoIs; kernel_rfl⟩, by kernel_rfl⟩, ⟨by kernel_rfl, ⟨_, rfl, by kernel_rfl⟩, fun _ => ⟨by kernel_rfl, by kernel_rfl, by kernel_rfl⟩⟩⟩
theorem tiok126 : TIok Tryz.prog 126 (.arr 16 1 5 (.ba 16 [0, 0, 0, 0, 0, 0, 0, 0, 0, 0, 0, 0, 0, 0, 0, 0])) := ⟨fun _ => ⟨⟨16, by unfold infoIs; kernel_rfl⟩, by kernel_rfl⟩, ⟨by kernel_rfl, ⟨1, toVal (.v (.int .u8 0)), by unfold infoIs; kernel_rfl⟩, by kernel_rfl⟩⟩
theorem tiok129 : TIok Tryz.prog 129 (.str [(0, 1), (1, 16)] [5, 126] (.agg [.v (.int .u8 0), .ba 16 [0, 0, 0, 0, 0, 0, 0, 0, 0, 0, 0, 0, 0, 0, 0, 0]])) := ⟨fun _ => ⟨⟨17, by unfold infoIs; kernel_rfl⟩, by kernel_rfl⟩, ⟨by kernel_rfl, ⟨_, rfl, by kernel_rfl⟩, fun _ => ⟨by kernel_rfl, by kernel_rfl, by kernel_rfl⟩⟩⟩
theorem tiok132 : TIok Tryz.prog 132 (.str [(0, 1), (1, 1)] [22, 3] (.agg [.v (.slice none 0 0), .v (.int .i64 0)])) := ⟨fun _ => ⟨⟨32, by unfold infoIs; kernel_rfl⟩, by kernel_rfl⟩, ⟨by kernel_rfl, ⟨_, rfl, by kernel_rfl⟩, fun _ => ⟨by kernel_rfl, by kernel_rfl, by kernel_rfl⟩⟩⟩
theorem tiok148 : TIok Tryz.prog 148 (.str [(0, 3), (3, 1), (4, 1), (5, 1)] [52, 5, 25, 25] (.agg [.agg [.v (.int .i64 0), .v (.int .u16 0), .v (.int .u64 0)], .v (.int .u8 0), .v (.int .u32 0), .v (.int .u32 0)])) := ⟨fun _ => ⟨⟨40, by unfold infoIs; kernel_rfl⟩, by kernel_rfl⟩, ⟨by kernel_rfl, ⟨_, rfl, by kernel_rfl⟩, fun _ => ⟨by kernel_rfl, by kernel_rfl, by kernel_rfl⟩⟩⟩
theorem tiok161 : TIok Tryz.prog 161 (.slc 1 8 (.v (.int .u64 0))) := ⟨fun _ => ⟨⟨24, by unfold infoIs; kernel_rfl⟩, by kernel_rfl⟩, ⟨49, by kernel_rfl, by unfold infoIs; kernel_rfl, by kernel_rfl, by kernel_rfl, fun h => by cases h⟩⟩
theorem tiok194 : TIok Tryz.prog 194 (.slc 4 48 (.agg [.v (.int .i64 0), .v (.int .u16 0), .v (.int .i64 0), .v (.slice none 0 0)])) := ⟨fun _ => ⟨⟨24, by unfold infoIs; kernel_rfl⟩, by kernel_rfl⟩, ⟨120, by kernel_rfl, by unfold infoIs; kernel_rfl, by kernel_rfl, by kernel_rfl, fun h => by cases h⟩⟩
theorem tiok203 : TIok Tryz.prog 203 (.str [(0, 3), (3, 3), (6, 1), (7, 1), (8, 1), (9, 1)] [52, 52, 23, 3, 194, 3] (.agg [.agg [.v (.int .i64 0), .v (.int .u16 0), .v (.int .u64 0)], .agg [.v (.int .i64 0), .v (.int .u16 0), .v (.int .u64 0)], .v (.int .u16 0), .v (.int .i64 0), .v (.slice none 0 0), .v (.int .i64 0)])) := ⟨fun _ => ⟨⟨96, by unfold infoIs; kernel_rfl⟩, by kernel_rfl⟩, ⟨by kernel_rfl, ⟨_, rfl, by kernel_rfl⟩, fun _ => ⟨by kernel_rfl, by kernel_rfl, by kernel_rfl⟩⟩⟩
theorem tiok238 : TIok Tryz.prog 238 (.arr 2 1 5 (.ba 2 [0, 0])) := ⟨fun _ => ⟨⟨2, by unfold infoIs; kernel_rfl⟩, by kernel_rfl⟩, ⟨by kernel_rfl, ⟨1, toVal (.v (.int .u8 0)), by unfold infoIs; kernel_rfl⟩, by kernel_rfl⟩⟩
theorem tiok249 : TIok Tryz.prog 249 (.str [(0, 1), (1, 1), (2, 1), (3, 1)] [4, 3, 3, 34] (.agg [.v (.bool false), .v (.int .i64 0), .v (.int .i64 0), .v (.slice none 0 0)])) := ⟨fun _ => ⟨⟨48, by unfold infoIs; kernel_rfl⟩, by kernel_rfl⟩, ⟨by kernel_rfl, ⟨_, rfl, by kernel_rfl⟩, fun _ => ⟨by kernel_rfl, by kernel_rfl, by kernel_rfl⟩⟩⟩
theorem tiok255 : TIok Tryz.prog 255 (.ptr 2) := ⟨fun _ => ⟨⟨8, by unfold infoIs; kernel_rfl⟩, by kernel_rfl⟩, ⟨257, by kernel_rfl⟩⟩
theorem tiok257 : TIok Tryz.prog 257 (.str [(0, 1), (1, 1)] [34, 3] (.agg [.v (.slice none 0 0), .v (.int .i64 0)])) := ⟨fun _ => ⟨⟨32, by unfold infoIs; kernel_rfl⟩, by kernel_rfl⟩, ⟨by kernel_rfl, ⟨_, rfl, by kernel_rfl⟩, fun _ => ⟨by kernel_rfl, by kernel_rfl, by kernel_rfl⟩⟩⟩
theorem tiok268 : TIok Tryz.prog 268 (.arr 2 1 3 (.agg [.v (.int .i64 0), .v (.int .i64 0)])) := ⟨fun _ => ⟨⟨16, by unfold infoIs; kernel_rfl⟩, by kernel_rfl⟩, ⟨by kernel_rfl, ⟨8, toVal (.v (.int .i64 0)), by unfold infoIs; kernel_rfl⟩, by kernel_rfl⟩⟩
theorem tiok269 : TIok Tryz.prog 269 (.arr 3 2 268 (.agg [.agg [.v (.int .i64 0), .v (.int .i64 0)], .agg [.v (.int .i64 0), .v (.int .i64 0)], .agg [.v (.int .i64 0), .v (.int .i64 0)]])) := ⟨fun _ => ⟨⟨48, by unfold infoIs; kernel_rfl⟩, by kernel_rfl⟩, ⟨by kernel_rfl, ⟨16, toVal (.agg [.v (.int .i64 0), .v (.int .i64 0)]), by unfold infoIs; kernel_rfl⟩, by kernel_rfl⟩⟩
theorem tiok270 : TIok Tryz.prog 270 (.arr 3 1 49 (.agg [.v (.int .u64 0), .v (.int .u64 0), .v (.int .u64 0)])) := ⟨fun _ => ⟨⟨24, by unfold infoIs; kernel_rfl⟩, by kernel_rfl⟩, ⟨by kernel_rfl, ⟨8, toVal (.v (.int .u64 0)), by unfold infoIs; kernel_rfl⟩, by kernel_rfl⟩⟩
theorem tiok275 : TIok Tryz.prog 275 (.arr 5 1 5 (.ba 5 [0, 0, 0, 0, 0])) := ⟨fun _ => ⟨⟨5, by unfold infoIs; kernel_rfl⟩, by kernel_rfl⟩, ⟨by kernel_rfl, ⟨1, toVal (.v (.int .u8 0)), by unfold infoIs; kernel_rfl⟩, by kernel_rfl⟩⟩
theorem tiok280 : TIok Tryz.prog 280 (.str [(0, 1), (1, 1)] [34, 4] (.agg [.v (.slice none 0 0), .v (.bool false)])) := ⟨fun _ => ⟨⟨32, by unfold infoIs; kernel_rfl⟩, by kernel_rfl⟩, ⟨by kernel_rfl, ⟨_, rfl, by kernel_rfl⟩, fun _ => ⟨by kernel_rfl, by kernel_rfl, by kernel_rfl⟩⟩⟩
theorem tiok281 : TIok Tryz.prog 281 (.arr 2 3 52 (.agg [.agg [.v (.int .i64 0), .v (.int .u16 0), .v (.int .u64 0)], .agg [.v (.int .i64 0), .v (.int .u16 0), .v (.int .u64 0)]])) := ⟨fun _ => ⟨⟨48, by unfold infoIs; kernel_rfl⟩, by kernel_rfl⟩, ⟨by kernel_rfl, ⟨24, toVal (.agg [.v (.int .i64 0), .v (.int .u16 0), .v (.int .u64 0)]), by unfold infoIs; kernel_rfl⟩, by kernel_rfl⟩⟩
theorem tiok284 : TIok Tryz.prog 284 (.arr 4 1 49 (.agg [.v (.int .u64 0), .v (.int .u64 0), .v (.int .u64 0), .v (.int .u64 0)])) := ⟨fun _ => ⟨⟨32, by unfold infoIs; kernel_rfl⟩, by kernel_rfl⟩, ⟨by kernel_rfl, ⟨8, toVal (.v (.int .u64 0)), by unfold infoIs; kernel_rfl⟩, by kernel_rfl⟩⟩
theorem tiok285 : TIok Tryz.prog 285 (.arr 4 1 49 (.agg [.v (.int .u64 0), .v (.int .u64 0), .v (.int .u64 0), .v (.int .u64 0)])) := ⟨fun _ => ⟨⟨32, by unfold infoIs; kernel_rfl⟩, by kernel_rfl⟩, ⟨by kernel_rfl, ⟨8, toVal (.v (.int .u64 0)), by unfold infoIs; kernel_rfl⟩, by kernel_rfl⟩⟩
theorem tiok304 : TIok Tryz.prog 304 (.arr 4 1 3 (.agg [.v (.int .i64 0), .v (.int .i64 0), .v (.int .i64 0), .v (.int .i64 0)])) := ⟨fun _ => ⟨⟨32, by unfold infoIs; kernel_rfl⟩, by kernel_rfl⟩, ⟨by kernel_rfl, ⟨8, toVal (.v (.int .i64 0)), by unfold infoIs; kernel_rfl⟩, by kernel_rfl⟩⟩
theorem tiok305 : TIok Tryz.prog 305 (.slc 2 16 (.agg [.v (.int .u64 0), .v (.int .i64 0)])) := ⟨fun _ => ⟨⟨24, by unfold infoIs; kernel_rfl⟩, by kernel_rfl⟩, ⟨307, by kernel_rfl, by unfold infoIs; kernel_rfl, by kernel_rfl, by kernel_rfl, fun h => by cases h⟩⟩
theorem tiok307 : TIok Tryz.prog 307 (.str [(0, 1), (1, 1)] [49, 3] (.agg [.v (.int .u64 0), .v (.int .i64 0)])) := ⟨fun _ => ⟨⟨16, by unfold infoIs; kernel_rfl⟩, by kernel_rfl⟩, ⟨by kernel_rfl, ⟨_, rfl, by kernel_rfl⟩, fun _ => ⟨by kernel_rfl, by kernel_rfl, by kernel_rfl⟩⟩⟩
theorem tiok312 : TIok Tryz.prog 312 (.ptr 2) := ⟨fun _ => ⟨⟨8, by unfold infoIs; kernel_rfl⟩, by kernel_rfl⟩, ⟨280, by kernel_rfl⟩⟩
theorem ttok : TTok Tryz.prog tt := lkT_ok (l := tbl) ⟨tiok2, tiok3, tiok4, tiok5, tiok9, tiok22, tiok23, tiok24, tiok25, tiok26, tiok28, tiok31, tiok34, tiok35, tiok39, tiok48, tiok49, tiok50, tiok52, tiok54, tiok55, tiok64, tiok67, tiok70, tiok97, tiok101, tiok107, tiok118, tiok120, tiok126, tiok129, tiok132, tiok148, tiok161, tiok194, tiok203, tiok238, tiok249, tiok255, tiok257, tiok268, tiok269, tiok270, tiok275, tiok280, tiok281, tiok284, tiok285, tiok304, tiok305, tiok307, tiok312, trivial⟩
theorem mixed : (Tryz.prog).follows .mixedOrders = true := by kernel_rfl
end Go.Fw
