/- The types of this seat, as the executor wants them. -/
import Derived.Test.YtbbmobmnijljgaaFm5
import Derived.Test.YtbbmobmnijljgaaProg
namespace Go.Fw
open Go.Proofs
def tbl : List (Nat × TI) := [
  (2, .int .i64),
  (3, .int .i64),
  (4, .bool),
  (5, .int .u8),
  (12, .int .u64),
  (21, .int .i32),
  (22, .slc 1 8 (.v (.int .i64 0))),
  (23, .int .u16),
  (27, .slc 40 96 (.agg [.agg [.agg [.ba 16 [0, 0, 0, 0, 0, 0, 0, 0, 0, 0, 0, 0, 0, 0, 0, 0], .v (.int .i64 0)], .agg [.ba 16 [0, 0, 0, 0, 0, 0, 0, 0, 0, 0, 0, 0, 0, 0, 0, 0], .v (.int .i64 0)], .v (.int .u64 0)], .v (.int .u16 0), .v (.int .i64 0), .v (.int .u64 0), .v (.int .i64 0), .v (.int .i64 0)])),
  (29, .arr 16 1 5 (.ba 16 [0, 0, 0, 0, 0, 0, 0, 0, 0, 0, 0, 0, 0, 0, 0, 0])),
  (30, .arr 16 1 5 (.ba 16 [0, 0, 0, 0, 0, 0, 0, 0, 0, 0, 0, 0, 0, 0, 0, 0])),
  (31, .str [(0, 16), (16, 1)] [30, 3] (.agg [.ba 16 [0, 0, 0, 0, 0, 0, 0, 0, 0, 0, 0, 0, 0, 0, 0, 0], .v (.int .i64 0)])),
  (32, .str [(0, 16), (16, 1)] [30, 3] (.agg [.ba 16 [0, 0, 0, 0, 0, 0, 0, 0, 0, 0, 0, 0, 0, 0, 0, 0], .v (.int .i64 0)])),
  (33, .int .u64),
  (34, .int .u64),
  (35, .str [(0, 17), (17, 17), (34, 1)] [32, 32, 34] (.agg [.agg [.ba 16 [0, 0, 0, 0, 0, 0, 0, 0, 0, 0, 0, 0, 0, 0, 0, 0], .v (.int .i64 0)], .agg [.ba 16 [0, 0, 0, 0, 0, 0, 0, 0, 0, 0, 0, 0, 0, 0, 0, 0], .v (.int .i64 0)], .v (.int .u64 0)])),
  (36, .str [(0, 17), (17, 17), (34, 1)] [32, 32, 34] (.agg [.agg [.ba 16 [0, 0, 0, 0, 0, 0, 0, 0, 0, 0, 0, 0, 0, 0, 0, 0], .v (.int .i64 0)], .agg [.ba 16 [0, 0, 0, 0, 0, 0, 0, 0, 0, 0, 0, 0, 0, 0, 0, 0], .v (.int .i64 0)], .v (.int .u64 0)])),
  (38, .int .i64),
  (45, .str [(0, 35), (35, 1), (36, 1), (37, 1), (38, 1), (39, 1)] [36, 23, 3, 34, 3, 3] (.agg [.agg [.agg [.ba 16 [0, 0, 0, 0, 0, 0, 0, 0, 0, 0, 0, 0, 0, 0, 0, 0], .v (.int .i64 0)], .agg [.ba 16 [0, 0, 0, 0, 0, 0, 0, 0, 0, 0, 0, 0, 0, 0, 0, 0], .v (.int .i64 0)], .v (.int .u64 0)], .v (.int .u16 0), .v (.int .i64 0), .v (.int .u64 0), .v (.int .i64 0), .v (.int .i64 0)])),
  (46, .str [(0, 35), (35, 1), (36, 1), (37, 1), (38, 1), (39, 1)] [36, 23, 3, 34, 3, 3] (.agg [.agg [.agg [.ba 16 [0, 0, 0, 0, 0, 0, 0, 0, 0, 0, 0, 0, 0, 0, 0, 0], .v (.int .i64 0)], .agg [.ba 16 [0, 0, 0, 0, 0, 0, 0, 0, 0, 0, 0, 0, 0, 0, 0, 0], .v (.int .i64 0)], .v (.int .u64 0)], .v (.int .u16 0), .v (.int .i64 0), .v (.int .u64 0), .v (.int .i64 0), .v (.int .i64 0)])),
  (49, .str [(0, 1), (1, 1)] [23, 3] (.agg [.v (.int .u16 0), .v (.int .i64 0)])),
  (50, .str [(0, 1), (1, 1)] [23, 3] (.agg [.v (.int .u16 0), .v (.int .i64 0)])),
  (64, .str [(0, 1), (1, 1)] [22, 3] (.agg [.v (.slice none 0 0), .v (.int .i64 0)])),
  (65, .str [(0, 1), (1, 1)] [22, 3] (.agg [.v (.slice none 0 0), .v (.int .i64 0)])),
  (88, .int .u64),
  (92, .slc 1 1 (.v (.int .u8 0))),
  (103, .int .u32)]
def tt (t : Nat) : TI := lkT tbl t
theorem tiok2 : TIok Try.prog 2 (.int .i64) := ⟨fun _ => ⟨⟨8, by unfold infoIs; kernel_rfl⟩, by kernel_rfl⟩, show (Try.prog).underlying 2 = some (.int .i64) from by kernel_rfl⟩
theorem tiok3 : TIok Try.prog 3 (.int .i64) := ⟨fun _ => ⟨⟨8, by unfold infoIs; kernel_rfl⟩, by kernel_rfl⟩, show (Try.prog).underlying 3 = some (.int .i64) from by kernel_rfl⟩
theorem tiok4 : TIok Try.prog 4 (.bool) := ⟨fun _ => ⟨⟨1, by unfold infoIs; kernel_rfl⟩, by kernel_rfl⟩, show (Try.prog).underlying 4 = some .bool from by kernel_rfl⟩
theorem tiok5 : TIok Try.prog 5 (.int .u8) := ⟨fun _ => ⟨⟨1, by unfold infoIs; kernel_rfl⟩, by kernel_rfl⟩, show (Try.prog).underlying 5 = some (.int .u8) from by kernel_rfl⟩
theorem tiok12 : TIok Try.prog 12 (.int .u64) := ⟨fun _ => ⟨⟨8, by unfold infoIs; kernel_rfl⟩, by kernel_rfl⟩, show (Try.prog).underlying 12 = some (.int .u64) from by kernel_rfl⟩
theorem tiok21 : TIok Try.prog 21 (.int .i32) := ⟨fun _ => ⟨⟨4, by unfold infoIs; kernel_rfl⟩, by kernel_rfl⟩, show (Try.prog).underlying 21 = some (.int .i32) from by kernel_rfl⟩
theorem tiok22 : TIok Try.prog 22 (.slc 1 8 (.v (.int .i64 0))) := ⟨fun _ => ⟨⟨24, by unfold infoIs; kernel_rfl⟩, by kernel_rfl⟩, ⟨3, by kernel_rfl, by unfold infoIs; kernel_rfl, by kernel_rfl, by kernel_rfl⟩⟩
theorem tiok23 : TIok Try.prog 23 (.int .u16) := ⟨fun _ => ⟨⟨2, by unfold infoIs; kernel_rfl⟩, by kernel_rfl⟩, show (Try.prog).underlying 23 = some (.int .u16) from by kernel_rfl⟩
theorem tiok27 : TIok Try.prog 27 (.slc 40 96 (.agg [.agg [.agg [.ba 16 [0, 0, 0, 0, 0, 0, 0, 0, 0, 0, 0, 0, 0, 0, 0, 0], .v (.int .i64 0)], .agg [.ba 16 [0, 0, 0, 0, 0, 0, 0, 0, 0, 0, 0, 0, 0, 0, 0, 0], .v (.int .i64 0)], .v (.int .u64 0)], .v (.int .u16 0), .v (.int .i64 0), .v (.int .u64 0), .v (.int .i64 0), .v (.int .i64 0)])) := ⟨fun _ => ⟨⟨24, by unfold infoIs; kernel_rfl⟩, by kernel_rfl⟩, ⟨46, by kernel_rfl, by unfold infoIs; kernel_rfl, by kernel_rfl, by kernel_rfl⟩⟩
theorem tiok29 : TIok Try.prog 29 (.arr 16 1 5 (.ba 16 [0, 0, 0, 0, 0, 0, 0, 0, 0, 0, 0, 0, 0, 0, 0, 0])) := ⟨fun _ => ⟨⟨16, by unfold infoIs; kernel_rfl⟩, by kernel_rfl⟩, ⟨by kernel_rfl, ⟨1, toVal (.v (.int .u8 0)), by unfold infoIs; kernel_rfl⟩, by kernel_rfl⟩⟩
theorem tiok30 : TIok Try.prog 30 (.arr 16 1 5 (.ba 16 [0, 0, 0, 0, 0, 0, 0, 0, 0, 0, 0, 0, 0, 0, 0, 0])) := ⟨fun _ => ⟨⟨16, by unfold infoIs; kernel_rfl⟩, by kernel_rfl⟩, ⟨by kernel_rfl, ⟨1, toVal (.v (.int .u8 0)), by unfold infoIs; kernel_rfl⟩, by kernel_rfl⟩⟩
theorem tiok31 : TIok Try.prog 31 (.str [(0, 16), (16, 1)] [30, 3] (.agg [.ba 16 [0, 0, 0, 0, 0, 0, 0, 0, 0, 0, 0, 0, 0, 0, 0, 0], .v (.int .i64 0)])) := ⟨fun _ => ⟨⟨24, by unfold infoIs; kernel_rfl⟩, by kernel_rfl⟩, ⟨by kernel_rfl, ⟨_, rfl, by kernel_rfl⟩, fun _ => ⟨by kernel_rfl, by kernel_rfl, by kernel_rfl⟩⟩⟩
theorem tiok32 : TIok Try.prog 32 (.str [(0, 16), (16, 1)] [30, 3] (.agg [.ba 16 [0, 0, 0, 0, 0, 0, 0, 0, 0, 0, 0, 0, 0, 0, 0, 0], .v (.int .i64 0)])) := ⟨fun _ => ⟨⟨24, by unfold infoIs; kernel_rfl⟩, by kernel_rfl⟩, ⟨by kernel_rfl, ⟨_, rfl, by kernel_rfl⟩, fun _ => ⟨by kernel_rfl, by kernel_rfl, by kernel_rfl⟩⟩⟩
theorem tiok33 : TIok Try.prog 33 (.int .u64) := ⟨fun _ => ⟨⟨8, by unfold infoIs; kernel_rfl⟩, by kernel_rfl⟩, show (Try.prog).underlying 33 = some (.int .u64) from by kernel_rfl⟩
theorem tiok34 : TIok Try.prog 34 (.int .u64) := ⟨fun _ => ⟨⟨8, by unfold infoIs; kernel_rfl⟩, by kernel_rfl⟩, show (Try.prog).underlying 34 = some (.int .u64) from by kernel_rfl⟩
theorem tiok35 : TIok Try.prog 35 (.str [(0, 17), (17, 17), (34, 1)] [32, 32, 34] (.agg [.agg [.ba 16 [0, 0, 0, 0, 0, 0, 0, 0, 0, 0, 0, 0, 0, 0, 0, 0], .v (.int .i64 0)], .agg [.ba 16 [0, 0, 0, 0, 0, 0, 0, 0, 0, 0, 0, 0, 0, 0, 0, 0], .v (.int .i64 0)], .v (.int .u64 0)])) := ⟨fun _ => ⟨⟨56, by unfold infoIs; kernel_rfl⟩, by kernel_rfl⟩, ⟨by kernel_rfl, ⟨_, rfl, by kernel_rfl⟩, fun _ => ⟨by kernel_rfl, by kernel_rfl, by kernel_rfl⟩⟩⟩
theorem tiok36 : TIok Try.prog 36 (.str [(0, 17), (17, 17), (34, 1)] [32, 32, 34] (.agg [.agg [.ba 16 [0, 0, 0, 0, 0, 0, 0, 0, 0, 0, 0, 0, 0, 0, 0, 0], .v (.int .i64 0)], .agg [.ba 16 [0, 0, 0, 0, 0, 0, 0, 0, 0, 0, 0, 0, 0, 0, 0, 0], .v (.int .i64 0)], .v (.int .u64 0)])) := ⟨fun _ => ⟨⟨56, by unfold infoIs; kernel_rfl⟩, by kernel_rfl⟩, ⟨by kernel_rfl, ⟨_, rfl, by kernel_rfl⟩, fun _ => ⟨by kernel_rfl, by kernel_rfl, by kernel_rfl⟩⟩⟩
theorem tiok38 : TIok Try.prog 38 (.int .i64) := ⟨fun _ => ⟨⟨8, by unfold infoIs; kernel_rfl⟩, by kernel_rfl⟩, show (Try.prog).underlying 38 = some (.int .i64) from by kernel_rfl⟩
theorem tiok45 : TIok Try.prog 45 (.str [(0, 35), (35, 1), (36, 1), (37, 1), (38, 1), (39, 1)] [36, 23, 3, 34, 3, 3] (.agg [.agg [.agg [.ba 16 [0, 0, 0, 0, 0, 0, 0, 0, 0, 0, 0, 0, 0, 0, 0, 0], .v (.int .i64 0)], .agg [.ba 16 [0, 0, 0, 0, 0, 0, 0, 0, 0, 0, 0, 0, 0, 0, 0, 0], .v (.int .i64 0)], .v (.int .u64 0)], .v (.int .u16 0), .v (.int .i64 0), .v (.int .u64 0), .v (.int .i64 0), .v (.int .i64 0)])) := ⟨fun _ => ⟨⟨96, by unfold infoIs; kernel_rfl⟩, by kernel_rfl⟩, ⟨by kernel_rfl, ⟨_, rfl, by kernel_rfl⟩, fun _ => ⟨by kernel_rfl, by kernel_rfl, by kernel_rfl⟩⟩⟩
theorem tiok46 : TIok Try.prog 46 (.str [(0, 35), (35, 1), (36, 1), (37, 1), (38, 1), (39, 1)] [36, 23, 3, 34, 3, 3] (.agg [.agg [.agg [.ba 16 [0, 0, 0, 0, 0, 0, 0, 0, 0, 0, 0, 0, 0, 0, 0, 0], .v (.int .i64 0)], .agg [.ba 16 [0, 0, 0, 0, 0, 0, 0, 0, 0, 0, 0, 0, 0, 0, 0, 0], .v (.int .i64 0)], .v (.int .u64 0)], .v (.int .u16 0), .v (.int .i64 0), .v (.int .u64 0), .v (.int .i64 0), .v (.int .i64 0)])) := ⟨fun _ => ⟨⟨96, by unfold infoIs; kernel_rfl⟩, by kernel_rfl⟩, ⟨by kernel_rfl, ⟨_, rfl, by kernel_rfl⟩, fun _ => ⟨by kernel_rfl, by kernel_rfl, by kernel_rfl⟩⟩⟩
theorem tiok49 : TIok Try.prog 49 (.str [(0, 1), (1, 1)] [23, 3] (.agg [.v (.int .u16 0), .v (.int .i64 0)])) := ⟨fun _ => ⟨⟨16, by unfold infoIs; kernel_rfl⟩, by kernel_rfl⟩, ⟨by kernel_rfl, ⟨_, rfl, by kernel_rfl⟩, fun _ => ⟨by kernel_rfl, by kernel_rfl, by kernel_rfl⟩⟩⟩
theorem tiok50 : TIok Try.prog 50 (.str [(0, 1), (1, 1)] [23, 3] (.agg [.v (.int .u16 0), .v (.int .i64 0)])) := ⟨fun _ => ⟨⟨16, by unfold infoIs; kernel_rfl⟩, by kernel_rfl⟩, ⟨by kernel_rfl, ⟨_, rfl, by kernel_rfl⟩, fun _ => ⟨by kernel_rfl, by kernel_rfl, by kernel_rfl⟩⟩⟩
theorem tiok64 : TIok Try.prog 64 (.str [(0, 1), (1, 1)] [22, 3] (.agg [.v (.slice none 0 0), .v (.int .i64 0)])) := ⟨fun _ => ⟨⟨32, by unfold infoIs; kernel_rfl⟩, by kernel_rfl⟩, ⟨by kernel_rfl, ⟨_, rfl, by kernel_rfl⟩, fun _ => ⟨by kernel_rfl, by kernel_rfl, by kernel_rfl⟩⟩⟩
theorem tiok65 : TIok Try.prog 65 (.str [(0, 1), (1, 1)] [22, 3] (.agg [.v (.slice none 0 0), .v (.int .i64 0)])) := ⟨fun _ => ⟨⟨32, by unfold infoIs; kernel_rfl⟩, by kernel_rfl⟩, ⟨by kernel_rfl, ⟨_, rfl, by kernel_rfl⟩, fun _ => ⟨by kernel_rfl, by kernel_rfl, by kernel_rfl⟩⟩⟩
theorem tiok88 : TIok Try.prog 88 (.int .u64) := ⟨fun _ => ⟨⟨8, by unfold infoIs; kernel_rfl⟩, by kernel_rfl⟩, show (Try.prog).underlying 88 = some (.int .u64) from by kernel_rfl⟩
theorem tiok92 : TIok Try.prog 92 (.slc 1 1 (.v (.int .u8 0))) := ⟨fun _ => ⟨⟨24, by unfold infoIs; kernel_rfl⟩, by kernel_rfl⟩, ⟨5, by kernel_rfl, by unfold infoIs; kernel_rfl, by kernel_rfl, by kernel_rfl⟩⟩
theorem tiok103 : TIok Try.prog 103 (.int .u32) := ⟨fun _ => ⟨⟨4, by unfold infoIs; kernel_rfl⟩, by kernel_rfl⟩, show (Try.prog).underlying 103 = some (.int .u32) from by kernel_rfl⟩
theorem ttok : TTok Try.prog tt := lkT_ok (l := tbl) ⟨tiok2, tiok3, tiok4, tiok5, tiok12, tiok21, tiok22, tiok23, tiok27, tiok29, tiok30, tiok31, tiok32, tiok33, tiok34, tiok35, tiok36, tiok38, tiok45, tiok46, tiok49, tiok50, tiok64, tiok65, tiok88, tiok92, tiok103, trivial⟩
theorem mixed : (Try.prog).follows .mixedOrders = true := by kernel_rfl
end Go.Fw
