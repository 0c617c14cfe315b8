/- The types of this seat, as the executor wants them. -/
import Derived.Test.YtpmiaggdjgfjgaaFm5
import Derived.Test.YtpmiaggdjgfjgaaProg
namespace Go.Fw
open Go.Proofs
def tbl : List (Nat × TI) := [
  (2, .int .i64),
  (3, .int .i64),
  (4, .bool),
  (5, .int .u8),
  (9, .sc (.v (.string ⟨#[]⟩))),
  (12, .int .u64),
  (21, .int .i32),
  (22, .int .u64),
  (23, .int .u64),
  (24, .str [(0, 1), (1, 1)] [3, 23] (.agg [.v (.int .i64 0), .v (.int .u64 0)])),
  (25, .str [(0, 1), (1, 1)] [3, 23] (.agg [.v (.int .i64 0), .v (.int .u64 0)])),
  (26, .slc 1 8 (.v (.int .u64 0))),
  (27, .slc 20 48 (.agg [.ba 16 [0, 0, 0, 0, 0, 0, 0, 0, 0, 0, 0, 0, 0, 0, 0, 0], .v (.int .u64 0), .v (.int .i64 0), .v (.int .i64 0), .v (.int .i64 0)])),
  (28, .str [(0, 2), (2, 1), (3, 1)] [25, 26, 27] (.agg [.agg [.v (.int .i64 0), .v (.int .u64 0)], .v (.slice none 0 0), .v (.slice none 0 0)])),
  (29, .str [(0, 2), (2, 1), (3, 1)] [25, 26, 27] (.agg [.agg [.v (.int .i64 0), .v (.int .u64 0)], .v (.slice none 0 0), .v (.slice none 0 0)])),
  (30, .slc 1 8 (.v (.int .i64 0))),
  (39, .int .i64),
  (51, .arr 16 1 5 (.ba 16 [0, 0, 0, 0, 0, 0, 0, 0, 0, 0, 0, 0, 0, 0, 0, 0])),
  (52, .arr 16 1 5 (.ba 16 [0, 0, 0, 0, 0, 0, 0, 0, 0, 0, 0, 0, 0, 0, 0, 0])),
  (53, .str [(0, 16), (16, 1), (17, 1), (18, 1), (19, 1)] [52, 23, 3, 3, 3] (.agg [.ba 16 [0, 0, 0, 0, 0, 0, 0, 0, 0, 0, 0, 0, 0, 0, 0, 0], .v (.int .u64 0), .v (.int .i64 0), .v (.int .i64 0), .v (.int .i64 0)])),
  (54, .str [(0, 16), (16, 1), (17, 1), (18, 1), (19, 1)] [52, 23, 3, 3, 3] (.agg [.ba 16 [0, 0, 0, 0, 0, 0, 0, 0, 0, 0, 0, 0, 0, 0, 0, 0], .v (.int .u64 0), .v (.int .i64 0), .v (.int .i64 0), .v (.int .i64 0)])),
  (64, .str [(0, 16), (16, 1)] [52, 3] (.agg [.ba 16 [0, 0, 0, 0, 0, 0, 0, 0, 0, 0, 0, 0, 0, 0, 0, 0], .v (.int .i64 0)])),
  (65, .str [(0, 16), (16, 1)] [52, 3] (.agg [.ba 16 [0, 0, 0, 0, 0, 0, 0, 0, 0, 0, 0, 0, 0, 0, 0, 0], .v (.int .i64 0)])),
  (66, .str [(0, 1), (1, 1)] [30, 3] (.agg [.v (.slice none 0 0), .v (.int .i64 0)])),
  (67, .str [(0, 1), (1, 1)] [30, 3] (.agg [.v (.slice none 0 0), .v (.int .i64 0)])),
  (75, .slc 1 1 (.v (.bool false))),
  (86, .slc 1 1 (.v (.int .u8 0))),
  (94, .int .u64),
  (107, .int .i64),
  (114, .int .u32),
  (121, .int .u64)]
def tt (t : Nat) : TI := lkT tbl t
theorem tiok2 : TIok Try.prog 2 (.int .i64) := ⟨fun _ => ⟨⟨8, by unfold infoIs; kernel_rfl⟩, by kernel_rfl⟩, show (Try.prog).underlying 2 = some (.int .i64) from by kernel_rfl⟩
theorem tiok3 : TIok Try.prog 3 (.int .i64) := ⟨fun _ => ⟨⟨8, by unfold infoIs; kernel_rfl⟩, by kernel_rfl⟩, show (Try.prog).underlying 3 = some (.int .i64) from by kernel_rfl⟩
theorem tiok4 : TIok Try.prog 4 (.bool) := ⟨fun _ => ⟨⟨1, by unfold infoIs; kernel_rfl⟩, by kernel_rfl⟩, show (Try.prog).underlying 4 = some .bool from by kernel_rfl⟩
theorem tiok5 : TIok Try.prog 5 (.int .u8) := ⟨fun _ => ⟨⟨1, by unfold infoIs; kernel_rfl⟩, by kernel_rfl⟩, show (Try.prog).underlying 5 = some (.int .u8) from by kernel_rfl⟩
theorem tiok9 : TIok Try.prog 9 (.sc (.v (.string ⟨#[]⟩))) := ⟨fun _ => ⟨⟨16, by unfold infoIs; kernel_rfl⟩, by kernel_rfl⟩, ⟨rfl, ⟨.string, by kernel_rfl, rfl⟩, fun _ _ => by kernel_rfl⟩⟩
theorem tiok12 : TIok Try.prog 12 (.int .u64) := ⟨fun _ => ⟨⟨8, by unfold infoIs; kernel_rfl⟩, by kernel_rfl⟩, show (Try.prog).underlying 12 = some (.int .u64) from by kernel_rfl⟩
theorem tiok21 : TIok Try.prog 21 (.int .i32) := ⟨fun _ => ⟨⟨4, by unfold infoIs; kernel_rfl⟩, by kernel_rfl⟩, show (Try.prog).underlying 21 = some (.int .i32) from by kernel_rfl⟩
theorem tiok22 : TIok Try.prog 22 (.int .u64) := ⟨fun _ => ⟨⟨8, by unfold infoIs; kernel_rfl⟩, by kernel_rfl⟩, show (Try.prog).underlying 22 = some (.int .u64) from by kernel_rfl⟩
theorem tiok23 : TIok Try.prog 23 (.int .u64) := ⟨fun _ => ⟨⟨8, by unfold infoIs; kernel_rfl⟩, by kernel_rfl⟩, show (Try.prog).underlying 23 = some (.int .u64) from by kernel_rfl⟩
theorem tiok24 : TIok Try.prog 24 (.str [(0, 1), (1, 1)] [3, 23] (.agg [.v (.int .i64 0), .v (.int .u64 0)])) := ⟨fun _ => ⟨⟨16, by unfold infoIs; kernel_rfl⟩, by kernel_rfl⟩, ⟨by kernel_rfl, ⟨_, rfl, by kernel_rfl⟩, fun _ => ⟨by kernel_rfl, by kernel_rfl, by kernel_rfl⟩⟩⟩
theorem tiok25 : TIok Try.prog 25 (.str [(0, 1), (1, 1)] [3, 23] (.agg [.v (.int .i64 0), .v (.int .u64 0)])) := ⟨fun _ => ⟨⟨16, by unfold infoIs; kernel_rfl⟩, by kernel_rfl⟩, ⟨by kernel_rfl, ⟨_, rfl, by kernel_rfl⟩, fun _ => ⟨by kernel_rfl, by kernel_rfl, by kernel_rfl⟩⟩⟩
theorem tiok26 : TIok Try.prog 26 (.slc 1 8 (.v (.int .u64 0))) := ⟨fun _ => ⟨⟨24, by unfold infoIs; kernel_rfl⟩, by kernel_rfl⟩, ⟨23, by kernel_rfl, by unfold infoIs; kernel_rfl, by kernel_rfl, by kernel_rfl, fun h => by cases h⟩⟩
theorem tiok27 : TIok Try.prog 27 (.slc 20 48 (.agg [.ba 16 [0, 0, 0, 0, 0, 0, 0, 0, 0, 0, 0, 0, 0, 0, 0, 0], .v (.int .u64 0), .v (.int .i64 0), .v (.int .i64 0), .v (.int .i64 0)])) := ⟨fun _ => ⟨⟨24, by unfold infoIs; kernel_rfl⟩, by kernel_rfl⟩, ⟨54, by kernel_rfl, by unfold infoIs; kernel_rfl, by kernel_rfl, by kernel_rfl, fun h => by cases h⟩⟩
theorem tiok28 : TIok Try.prog 28 (.str [(0, 2), (2, 1), (3, 1)] [25, 26, 27] (.agg [.agg [.v (.int .i64 0), .v (.int .u64 0)], .v (.slice none 0 0), .v (.slice none 0 0)])) := ⟨fun _ => ⟨⟨64, by unfold infoIs; kernel_rfl⟩, by kernel_rfl⟩, ⟨by kernel_rfl, ⟨_, rfl, by kernel_rfl⟩, fun _ => ⟨by kernel_rfl, by kernel_rfl, by kernel_rfl⟩⟩⟩
theorem tiok29 : TIok Try.prog 29 (.str [(0, 2), (2, 1), (3, 1)] [25, 26, 27] (.agg [.agg [.v (.int .i64 0), .v (.int .u64 0)], .v (.slice none 0 0), .v (.slice none 0 0)])) := ⟨fun _ => ⟨⟨64, by unfold infoIs; kernel_rfl⟩, by kernel_rfl⟩, ⟨by kernel_rfl, ⟨_, rfl, by kernel_rfl⟩, fun _ => ⟨by kernel_rfl, by kernel_rfl, by kernel_rfl⟩⟩⟩
theorem tiok30 : TIok Try.prog 30 (.slc 1 8 (.v (.int .i64 0))) := ⟨fun _ => ⟨⟨24, by unfold infoIs; kernel_rfl⟩, by kernel_rfl⟩, ⟨3, by kernel_rfl, by unfold infoIs; kernel_rfl, by kernel_rfl, by kernel_rfl, fun h => by cases h⟩⟩
theorem tiok39 : TIok Try.prog 39 (.int .i64) := ⟨fun _ => ⟨⟨8, by unfold infoIs; kernel_rfl⟩, by kernel_rfl⟩, show (Try.prog).underlying 39 = some (.int .i64) from by kernel_rfl⟩
theorem tiok51 : TIok Try.prog 51 (.arr 16 1 5 (.ba 16 [0, 0, 0, 0, 0, 0, 0, 0, 0, 0, 0, 0, 0, 0, 0, 0])) := ⟨fun _ => ⟨⟨16, by unfold infoIs; kernel_rfl⟩, by kernel_rfl⟩, ⟨by kernel_rfl, ⟨1, toVal (.v (.int .u8 0)), by unfold infoIs; kernel_rfl⟩, by kernel_rfl⟩⟩
theorem tiok52 : TIok Try.prog 52 (.arr 16 1 5 (.ba 16 [0, 0, 0, 0, 0, 0, 0, 0, 0, 0, 0, 0, 0, 0, 0, 0])) := ⟨fun _ => ⟨⟨16, by unfold infoIs; kernel_rfl⟩, by kernel_rfl⟩, ⟨by kernel_rfl, ⟨1, toVal (.v (.int .u8 0)), by unfold infoIs; kernel_rfl⟩, by kernel_rfl⟩⟩
theorem tiok53 : TIok Try.prog 53 (.str [(0, 16), (16, 1), (17, 1), (18, 1), (19, 1)] [52, 23, 3, 3, 3] (.agg [.ba 16 [0, 0, 0, 0, 0, 0, 0, 0, 0, 0, 0, 0, 0, 0, 0, 0], .v (.int .u64 0), .v (.int .i64 0), .v (.int .i64 0), .v (.int .i64 0)])) := ⟨fun _ => ⟨⟨48, by unfold infoIs; kernel_rfl⟩, by kernel_rfl⟩, ⟨by kernel_rfl, ⟨_, rfl, by kernel_rfl⟩, fun _ => ⟨by kernel_rfl, by kernel_rfl, by kernel_rfl⟩⟩⟩
theorem tiok54 : TIok Try.prog 54 (.str [(0, 16), (16, 1), (17, 1), (18, 1), (19, 1)] [52, 23, 3, 3, 3] (.agg [.ba 16 [0, 0, 0, 0, 0, 0, 0, 0, 0, 0, 0, 0, 0, 0, 0, 0], .v (.int .u64 0), .v (.int .i64 0), .v (.int .i64 0), .v (.int .i64 0)])) := ⟨fun _ => ⟨⟨48, by unfold infoIs; kernel_rfl⟩, by kernel_rfl⟩, ⟨by kernel_rfl, ⟨_, rfl, by kernel_rfl⟩, fun _ => ⟨by kernel_rfl, by kernel_rfl, by kernel_rfl⟩⟩⟩
theorem tiok64 : TIok Try.prog 64 (.str [(0, 16), (16, 1)] [52, 3] (.agg [.ba 16 [0, 0, 0, 0, 0, 0, 0, 0, 0, 0, 0, 0, 0, 0, 0, 0], .v (.int .i64 0)])) := ⟨fun _ => ⟨⟨24, by unfold infoIs; kernel_rfl⟩, by kernel_rfl⟩, ⟨by kernel_rfl, ⟨_, rfl, by kernel_rfl⟩, fun _ => ⟨by kernel_rfl, by kernel_rfl, by kernel_rfl⟩⟩⟩
theorem tiok65 : TIok Try.prog 65 (.str [(0, 16), (16, 1)] [52, 3] (.agg [.ba 16 [0, 0, 0, 0, 0, 0, 0, 0, 0, 0, 0, 0, 0, 0, 0, 0], .v (.int .i64 0)])) := ⟨fun _ => ⟨⟨24, by unfold infoIs; kernel_rfl⟩, by kernel_rfl⟩, ⟨by kernel_rfl, ⟨_, rfl, by kernel_rfl⟩, fun _ => ⟨by kernel_rfl, by kernel_rfl, by kernel_rfl⟩⟩⟩
theorem tiok66 : TIok Try.prog 66 (.str [(0, 1), (1, 1)] [30, 3] (.agg [.v (.slice none 0 0), .v (.int .i64 0)])) := ⟨fun _ => ⟨⟨32, by unfold infoIs; kernel_rfl⟩, by kernel_rfl⟩, ⟨by kernel_rfl, ⟨_, rfl, by kernel_rfl⟩, fun _ => ⟨by kernel_rfl, by kernel_rfl, by kernel_rfl⟩⟩⟩
theorem tiok67 : TIok Try.prog 67 (.str [(0, 1), (1, 1)] [30, 3] (.agg [.v (.slice none 0 0), .v (.int .i64 0)])) := ⟨fun _ => ⟨⟨32, by unfold infoIs; kernel_rfl⟩, by kernel_rfl⟩, ⟨by kernel_rfl, ⟨_, rfl, by kernel_rfl⟩, fun _ => ⟨by kernel_rfl, by kernel_rfl, by kernel_rfl⟩⟩⟩
theorem tiok75 : TIok Try.prog 75 (.slc 1 1 (.v (.bool false))) := ⟨fun _ => ⟨⟨24, by unfold infoIs; kernel_rfl⟩, by kernel_rfl⟩, ⟨4, by kernel_rfl, by unfold infoIs; kernel_rfl, by kernel_rfl, by kernel_rfl, fun h => by cases h⟩⟩
theorem tiok86 : TIok Try.prog 86 (.slc 1 1 (.v (.int .u8 0))) := ⟨fun _ => ⟨⟨24, by unfold infoIs; kernel_rfl⟩, by kernel_rfl⟩, ⟨5, by kernel_rfl, by unfold infoIs; kernel_rfl, by kernel_rfl, by kernel_rfl, fun _ => by kernel_rfl⟩⟩
theorem tiok94 : TIok Try.prog 94 (.int .u64) := ⟨fun _ => ⟨⟨8, by unfold infoIs; kernel_rfl⟩, by kernel_rfl⟩, show (Try.prog).underlying 94 = some (.int .u64) from by kernel_rfl⟩
theorem tiok107 : TIok Try.prog 107 (.int .i64) := ⟨fun _ => ⟨⟨8, by unfold infoIs; kernel_rfl⟩, by kernel_rfl⟩, show (Try.prog).underlying 107 = some (.int .i64) from by kernel_rfl⟩
theorem tiok114 : TIok Try.prog 114 (.int .u32) := ⟨fun _ => ⟨⟨4, by unfold infoIs; kernel_rfl⟩, by kernel_rfl⟩, show (Try.prog).underlying 114 = some (.int .u32) from by kernel_rfl⟩
theorem tiok121 : TIok Try.prog 121 (.int .u64) := ⟨fun _ => ⟨⟨8, by unfold infoIs; kernel_rfl⟩, by kernel_rfl⟩, show (Try.prog).underlying 121 = some (.int .u64) from by kernel_rfl⟩
theorem ttok : TTok Try.prog tt := lkT_ok (l := tbl) ⟨tiok2, tiok3, tiok4, tiok5, tiok9, tiok12, tiok21, tiok22, tiok23, tiok24, tiok25, tiok26, tiok27, tiok28, tiok29, tiok30, tiok39, tiok51, tiok52, tiok53, tiok54, tiok64, tiok65, tiok66, tiok67, tiok75, tiok86, tiok94, tiok107, tiok114, tiok121, trivial⟩
theorem mixed : (Try.prog).follows .mixedOrders = true := by kernel_rfl
end Go.Fw
