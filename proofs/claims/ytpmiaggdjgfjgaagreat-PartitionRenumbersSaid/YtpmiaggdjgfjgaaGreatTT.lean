/- The types of this seat, as the executor wants them. -/
import Derived.Test.YtpmiaggdjgfjgaaGreatFm5
import Derived.Test.YtpmiaggdjgfjgaaGreatProg
namespace Go.Fw
open Go.Proofs
def tbl : List (Nat × TI) := [
  (2, .int .i64),
  (3, .int .i64),
  (4, .bool),
  (5, .int .u8),
  (9, .sc (.v (.string ⟨#[]⟩))),
  (12, .int .u64),
  (21, .int .i32),
  (22, .int .u64),
  (23, .int .u64),
  (24, .str [(0, 1), (1, 1)] [3, 23] (.agg [.v (.int .i64 0), .v (.int .u64 0)])),
  (25, .str [(0, 1), (1, 1)] [3, 23] (.agg [.v (.int .i64 0), .v (.int .u64 0)])),
  (26, .slc 1 8 (.v (.int .u64 0))),
  (27, .slc 20 48 (.agg [.ba 16 [0, 0, 0, 0, 0, 0, 0, 0, 0, 0, 0, 0, 0, 0, 0, 0], .v (.int .u64 0), .v (.int .i64 0), .v (.int .i64 0), .v (.int .i64 0)])),
  (28, .str [(0, 2), (2, 1), (3, 1)] [25, 26, 27] (.agg [.agg [.v (.int .i64 0), .v (.int .u64 0)], .v (.slice none 0 0), .v (.slice none 0 0)])),
  (29, .str [(0, 2), (2, 1), (3, 1)] [25, 26, 27] (.agg [.agg [.v (.int .i64 0), .v (.int .u64 0)], .v (.slice none 0 0), .v (.slice none 0 0)])),
  (30, .slc 1 8 (.v (.int .i64 0))),
  (31, .arr 16 1 5 (.ba 16 [0, 0, 0, 0, 0, 0, 0, 0, 0, 0, 0, 0, 0, 0, 0, 0])),
  (32, .arr 16 1 5 (.ba 16 [0, 0, 0, 0, 0, 0, 0, 0, 0, 0, 0, 0, 0, 0, 0, 0])),
  (33, .str [(0, 16), (16, 1)] [32, 3] (.agg [.ba 16 [0, 0, 0, 0, 0, 0, 0, 0, 0, 0, 0, 0, 0, 0, 0, 0], .v (.int .i64 0)])),
  (34, .str [(0, 16), (16, 1)] [32, 3] (.agg [.ba 16 [0, 0, 0, 0, 0, 0, 0, 0, 0, 0, 0, 0, 0, 0, 0, 0], .v (.int .i64 0)])),
  (49, .int .i64),
  (56, .str [(0, 1), (1, 1)] [30, 3] (.agg [.v (.slice none 0 0), .v (.int .i64 0)])),
  (57, .str [(0, 1), (1, 1)] [30, 3] (.agg [.v (.slice none 0 0), .v (.int .i64 0)])),
  (60, .str [(0, 16), (16, 1), (17, 1), (18, 1), (19, 1)] [32, 23, 3, 3, 3] (.agg [.ba 16 [0, 0, 0, 0, 0, 0, 0, 0, 0, 0, 0, 0, 0, 0, 0, 0], .v (.int .u64 0), .v (.int .i64 0), .v (.int .i64 0), .v (.int .i64 0)])),
  (61, .str [(0, 16), (16, 1), (17, 1), (18, 1), (19, 1)] [32, 23, 3, 3, 3] (.agg [.ba 16 [0, 0, 0, 0, 0, 0, 0, 0, 0, 0, 0, 0, 0, 0, 0, 0], .v (.int .u64 0), .v (.int .i64 0), .v (.int .i64 0), .v (.int .i64 0)])),
  (64, .int .u64),
  (74, .slc 1 1 (.v (.bool false))),
  (86, .slc 1 1 (.v (.int .u8 0))),
  (104, .int .i64),
  (111, .int .u32),
  (120, .int .u64)]
def tt (t : Nat) : TI := lkT tbl t
theorem tiok2 : TIok Tryz.prog 2 (.int .i64) := ⟨fun _ => ⟨⟨8, by unfold infoIs; kernel_rfl⟩, by kernel_rfl⟩, show (Tryz.prog).underlying 2 = some (.int .i64) from by kernel_rfl⟩
theorem tiok3 : TIok Tryz.prog 3 (.int .i64) := ⟨fun _ => ⟨⟨8, by unfold infoIs; kernel_rfl⟩, by kernel_rfl⟩, show (Tryz.prog).underlying 3 = some (.int .i64) from by kernel_rfl⟩
theorem tiok4 : TIok Tryz.prog 4 (.bool) := ⟨fun _ => ⟨⟨1, by unfold infoIs; kernel_rfl⟩, by kernel_rfl⟩, show (Tryz.prog).underlying 4 = some .bool from by kernel_rfl⟩
theorem tiok5 : TIok Tryz.prog 5 (.int .u8) := ⟨fun _ => ⟨⟨1, by unfold infoIs; kernel_rfl⟩, by kernel_rfl⟩, show (Tryz.prog).underlying 5 = some (.int .u8) from by kernel_rfl⟩
theorem tiok9 : TIok Tryz.prog 9 (.sc (.v (.string ⟨#[]⟩))) := ⟨fun _ => ⟨⟨16, by unfold infoIs; kernel_rfl⟩, by kernel_rfl⟩, ⟨rfl, ⟨.string, by kernel_rfl, rfl⟩, fun _ _ => by kernel_rfl⟩⟩
theorem tiok12 : TIok Tryz.prog 12 (.int .u64) := ⟨fun _ => ⟨⟨8, by unfold infoIs; kernel_rfl⟩, by kernel_rfl⟩, show (Tryz.prog).underlying 12 = some (.int .u64) from by kernel_rfl⟩
theorem tiok21 : TIok Tryz.prog 21 (.int .i32) := ⟨fun _ => ⟨⟨4, by unfold infoIs; kernel_rfl⟩, by kernel_rfl⟩, show (Tryz.prog).underlying 21 = some (.int .i32) from by kernel_rfl⟩
theorem tiok22 : TIok Tryz.prog 22 (.int .u64) := ⟨fun _ => ⟨⟨8, by unfold infoIs; kernel_rfl⟩, by kernel_rfl⟩, show (Tryz.prog).underlying 22 = some (.int .u64) from by kernel_rfl⟩
theorem tiok23 : TIok Tryz.prog 23 (.int .u64) := ⟨fun _ => ⟨⟨8, by unfold infoIs; kernel_rfl⟩, by kernel_rfl⟩, show (Tryz.prog).underlying 23 = some (.int .u64) from by kernel_rfl⟩
theorem tiok24 : TIok Tryz.prog 24 (.str [(0, 1), (1, 1)] [3, 23] (.agg [.v (.int .i64 0), .v (.int .u64 0)])) := ⟨fun _ => ⟨⟨16, by unfold infoIs; kernel_rfl⟩, by kernel_rfl⟩, ⟨by kernel_rfl, ⟨_, rfl, by kernel_rfl⟩, fun _ => ⟨by kernel_rfl, by kernel_rfl, by kernel_rfl⟩⟩⟩
theorem tiok25 : TIok Tryz.prog 25 (.str [(0, 1), (1, 1)] [3, 23] (.agg [.v (.int .i64 0), .v (.int .u64 0)])) := ⟨fun _ => ⟨⟨16, by unfold infoIs; kernel_rfl⟩, by kernel_rfl⟩, ⟨by kernel_rfl, ⟨_, rfl, by kernel_rfl⟩, fun _ => ⟨by kernel_rfl, by kernel_rfl, by kernel_rfl⟩⟩⟩
theorem tiok26 : TIok Tryz.prog 26 (.slc 1 8 (.v (.int .u64 0))) := ⟨fun _ => ⟨⟨24, by unfold infoIs; kernel_rfl⟩, by kernel_rfl⟩, ⟨23, by kernel_rfl, by unfold infoIs; kernel_rfl, by kernel_rfl, by kernel_rfl, fun h => by cases h⟩⟩
theorem tiok27 : TIok Tryz.prog 27 (.slc 20 48 (.agg [.ba 16 [0, 0, 0, 0, 0, 0, 0, 0, 0, 0, 0, 0, 0, 0, 0, 0], .v (.int .u64 0), .v (.int .i64 0), .v (.int .i64 0), .v (.int .i64 0)])) := ⟨fun _ => ⟨⟨24, by unfold infoIs; kernel_rfl⟩, by kernel_rfl⟩, ⟨61, by kernel_rfl, by unfold infoIs; kernel_rfl, by kernel_rfl, by kernel_rfl, fun h => by cases h⟩⟩
theorem tiok28 : TIok Tryz.prog 28 (.str [(0, 2), (2, 1), (3, 1)] [25, 26, 27] (.agg [.agg [.v (.int .i64 0), .v (.int .u64 0)], .v (.slice none 0 0), .v (.slice none 0 0)])) := ⟨fun _ => ⟨⟨64, by unfold infoIs; kernel_rfl⟩, by kernel_rfl⟩, ⟨by kernel_rfl, ⟨_, rfl, by kernel_rfl⟩, fun _ => ⟨by kernel_rfl, by kernel_rfl, by kernel_rfl⟩⟩⟩
theorem tiok29 : TIok Tryz.prog 29 (.str [(0, 2), (2, 1), (3, 1)] [25, 26, 27] (.agg [.agg [.v (.int .i64 0), .v (.int .u64 0)], .v (.slice none 0 0), .v (.slice none 0 0)])) := ⟨fun _ => ⟨⟨64, by unfold infoIs; kernel_rfl⟩, by kernel_rfl⟩, ⟨by kernel_rfl, ⟨_, rfl, by kernel_rfl⟩, fun _ => ⟨by kernel_rfl, by kernel_rfl, by kernel_rfl⟩⟩⟩
theorem tiok30 : TIok Tryz.prog 30 (.slc 1 8 (.v (.int .i64 0))) := ⟨fun _ => ⟨⟨24, by unfold infoIs; kernel_rfl⟩, by kernel_rfl⟩, ⟨3, by kernel_rfl, by unfold infoIs; kernel_rfl, by kernel_rfl, by kernel_rfl, fun h => by cases h⟩⟩
theorem tiok31 : TIok Tryz.prog 31 (.arr 16 1 5 (.ba 16 [0, 0, 0, 0, 0, 0, 0, 0, 0, 0, 0, 0, 0, 0, 0, 0])) := ⟨fun _ => ⟨⟨16, by unfold infoIs; kernel_rfl⟩, by kernel_rfl⟩, ⟨by kernel_rfl, ⟨1, toVal (.v (.int .u8 0)), by unfold infoIs; kernel_rfl⟩, by kernel_rfl⟩⟩
theorem tiok32 : TIok Tryz.prog 32 (.arr 16 1 5 (.ba 16 [0, 0, 0, 0, 0, 0, 0, 0, 0, 0, 0, 0, 0, 0, 0, 0])) := ⟨fun _ => ⟨⟨16, by unfold infoIs; kernel_rfl⟩, by kernel_rfl⟩, ⟨by kernel_rfl, ⟨1, toVal (.v (.int .u8 0)), by unfold infoIs; kernel_rfl⟩, by kernel_rfl⟩⟩
theorem tiok33 : TIok Tryz.prog 33 (.str [(0, 16), (16, 1)] [32, 3] (.agg [.ba 16 [0, 0, 0, 0, 0, 0, 0, 0, 0, 0, 0, 0, 0, 0, 0, 0], .v (.int .i64 0)])) := ⟨fun _ => ⟨⟨24, by unfold infoIs; kernel_rfl⟩, by kernel_rfl⟩, ⟨by kernel_rfl, ⟨_, rfl, by kernel_rfl⟩, fun _ => ⟨by kernel_rfl, by kernel_rfl, by kernel_rfl⟩⟩⟩
theorem tiok34 : TIok Tryz.prog 34 (.str [(0, 16), (16, 1)] [32, 3] (.agg [.ba 16 [0, 0, 0, 0, 0, 0, 0, 0, 0, 0, 0, 0, 0, 0, 0, 0], .v (.int .i64 0)])) := ⟨fun _ => ⟨⟨24, by unfold infoIs; kernel_rfl⟩, by kernel_rfl⟩, ⟨by kernel_rfl, ⟨_, rfl, by kernel_rfl⟩, fun _ => ⟨by kernel_rfl, by kernel_rfl, by kernel_rfl⟩⟩⟩
theorem tiok49 : TIok Tryz.prog 49 (.int .i64) := ⟨fun _ => ⟨⟨8, by unfold infoIs; kernel_rfl⟩, by kernel_rfl⟩, show (Tryz.prog).underlying 49 = some (.int .i64) from by kernel_rfl⟩
theorem tiok56 : TIok Tryz.prog 56 (.str [(0, 1), (1, 1)] [30, 3] (.agg [.v (.slice none 0 0), .v (.int .i64 0)])) := ⟨fun _ => ⟨⟨32, by unfold infoIs; kernel_rfl⟩, by kernel_rfl⟩, ⟨by kernel_rfl, ⟨_, rfl, by kernel_rfl⟩, fun _ => ⟨by kernel_rfl, by kernel_rfl, by kernel_rfl⟩⟩⟩
theorem tiok57 : TIok Tryz.prog 57 (.str [(0, 1), (1, 1)] [30, 3] (.agg [.v (.slice none 0 0), .v (.int .i64 0)])) := ⟨fun _ => ⟨⟨32, by unfold infoIs; kernel_rfl⟩, by kernel_rfl⟩, ⟨by kernel_rfl, ⟨_, rfl, by kernel_rfl⟩, fun _ => ⟨by kernel_rfl, by kernel_rfl, by kernel_rfl⟩⟩⟩
theorem tiok60 : TIok Tryz.prog 60 (.str [(0, 16), (16, 1), (17, 1), (18, 1), (19, 1)] [32, 23, 3, 3, 3] (.agg [.ba 16 [0, 0, 0, 0, 0, 0, 0, 0, 0, 0, 0, 0, 0, 0, 0, 0], .v (.int .u64 0), .v (.int .i64 0), .v (.int .i64 0), .v (.int .i64 0)])) := ⟨fun _ => ⟨⟨48, by unfold infoIs; kernel_rfl⟩, by kernel_rfl⟩, ⟨by kernel_rfl, ⟨_, rfl, by kernel_rfl⟩, fun _ => ⟨by kernel_rfl, by kernel_rfl, by kernel_rfl⟩⟩⟩
theorem tiok61 : TIok Tryz.prog 61 (.str [(0, 16), (16, 1), (17, 1), (18, 1), (19, 1)] [32, 23, 3, 3, 3] (.agg [.ba 16 [0, 0, 0, 0, 0, 0, 0, 0, 0, 0, 0, 0, 0, 0, 0, 0], .v (.int .u64 0), .v (.int .i64 0), .v (.int .i64 0), .v (.int .i64 0)])) := ⟨fun _ => ⟨⟨48, by unfold infoIs; kernel_rfl⟩, by kernel_rfl⟩, ⟨by kernel_rfl, ⟨_, rfl, by kernel_rfl⟩, fun _ => ⟨by kernel_rfl, by kernel_rfl, by kernel_rfl⟩⟩⟩
theorem tiok64 : TIok Tryz.prog 64 (.int .u64) := ⟨fun _ => ⟨⟨8, by unfold infoIs; kernel_rfl⟩, by kernel_rfl⟩, show (Tryz.prog).underlying 64 = some (.int .u64) from by kernel_rfl⟩
theorem tiok74 : TIok Tryz.prog 74 (.slc 1 1 (.v (.bool false))) := ⟨fun _ => ⟨⟨24, by unfold infoIs; kernel_rfl⟩, by kernel_rfl⟩, ⟨4, by kernel_rfl, by unfold infoIs; kernel_rfl, by kernel_rfl, by kernel_rfl, fun h => by cases h⟩⟩
theorem tiok86 : TIok Tryz.prog 86 (.slc 1 1 (.v (.int .u8 0))) := ⟨fun _ => ⟨⟨24, by unfold infoIs; kernel_rfl⟩, by kernel_rfl⟩, ⟨5, by kernel_rfl, by unfold infoIs; kernel_rfl, by kernel_rfl, by kernel_rfl, fun _ => by kernel_rfl⟩⟩
theorem tiok104 : TIok Tryz.prog 104 (.int .i64) := ⟨fun _ => ⟨⟨8, by unfold infoIs; kernel_rfl⟩, by kernel_rfl⟩, show (Tryz.prog).underlying 104 = some (.int .i64) from by kernel_rfl⟩
theorem tiok111 : TIok Tryz.prog 111 (.int .u32) := ⟨fun _ => ⟨⟨4, by unfold infoIs; kernel_rfl⟩, by kernel_rfl⟩, show (Tryz.prog).underlying 111 = some (.int .u32) from by kernel_rfl⟩
theorem tiok120 : TIok Tryz.prog 120 (.int .u64) := ⟨fun _ => ⟨⟨8, by unfold infoIs; kernel_rfl⟩, by kernel_rfl⟩, show (Tryz.prog).underlying 120 = some (.int .u64) from by kernel_rfl⟩
theorem ttok : TTok Tryz.prog tt := lkT_ok (l := tbl) ⟨tiok2, tiok3, tiok4, tiok5, tiok9, tiok12, tiok21, tiok22, tiok23, tiok24, tiok25, tiok26, tiok27, tiok28, tiok29, tiok30, tiok31, tiok32, tiok33, tiok34, tiok49, tiok56, tiok57, tiok60, tiok61, tiok64, tiok74, tiok86, tiok104, tiok111, tiok120, trivial⟩
theorem mixed : (Tryz.prog).follows .mixedOrders = true := by kernel_rfl
end Go.Fw
