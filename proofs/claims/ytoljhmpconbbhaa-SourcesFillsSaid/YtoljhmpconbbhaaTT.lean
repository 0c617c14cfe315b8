/- The types of this seat, as the executor wants them. -/
import Derived.Test.YtoljhmpconbbhaaFm5
import Derived.Test.YtoljhmpconbbhaaProg
namespace Go.Fw
open Go.Proofs
def tbl : List (Nat × TI) := [
  (2, .int .i64),
  (3, .int .i64),
  (4, .bool),
  (5, .int .u8),
  (12, .int .u64),
  (21, .int .i32),
  (22, .arr 16 1 5 (.ba 16 [0, 0, 0, 0, 0, 0, 0, 0, 0, 0, 0, 0, 0, 0, 0, 0])),
  (23, .arr 16 1 5 (.ba 16 [0, 0, 0, 0, 0, 0, 0, 0, 0, 0, 0, 0, 0, 0, 0, 0])),
  (24, .str [(0, 16), (16, 1)] [23, 3] (.agg [.ba 16 [0, 0, 0, 0, 0, 0, 0, 0, 0, 0, 0, 0, 0, 0, 0, 0], .v (.int .i64 0)])),
  (25, .str [(0, 16), (16, 1)] [23, 3] (.agg [.ba 16 [0, 0, 0, 0, 0, 0, 0, 0, 0, 0, 0, 0, 0, 0, 0, 0], .v (.int .i64 0)])),
  (26, .int .u64),
  (27, .int .u64),
  (28, .str [(0, 17), (17, 17), (34, 1)] [25, 25, 27] (.agg [.agg [.ba 16 [0, 0, 0, 0, 0, 0, 0, 0, 0, 0, 0, 0, 0, 0, 0, 0], .v (.int .i64 0)], .agg [.ba 16 [0, 0, 0, 0, 0, 0, 0, 0, 0, 0, 0, 0, 0, 0, 0, 0], .v (.int .i64 0)], .v (.int .u64 0)])),
  (29, .str [(0, 17), (17, 17), (34, 1)] [25, 25, 27] (.agg [.agg [.ba 16 [0, 0, 0, 0, 0, 0, 0, 0, 0, 0, 0, 0, 0, 0, 0, 0], .v (.int .i64 0)], .agg [.ba 16 [0, 0, 0, 0, 0, 0, 0, 0, 0, 0, 0, 0, 0, 0, 0, 0], .v (.int .i64 0)], .v (.int .u64 0)])),
  (30, .slc 1 8 (.v (.int .i64 0))),
  (34, .slc 35 56 (.agg [.agg [.ba 16 [0, 0, 0, 0, 0, 0, 0, 0, 0, 0, 0, 0, 0, 0, 0, 0], .v (.int .i64 0)], .agg [.ba 16 [0, 0, 0, 0, 0, 0, 0, 0, 0, 0, 0, 0, 0, 0, 0, 0], .v (.int .i64 0)], .v (.int .u64 0)])),
  (39, .slc 38 80 (.agg [.agg [.agg [.ba 16 [0, 0, 0, 0, 0, 0, 0, 0, 0, 0, 0, 0, 0, 0, 0, 0], .v (.int .i64 0)], .agg [.ba 16 [0, 0, 0, 0, 0, 0, 0, 0, 0, 0, 0, 0, 0, 0, 0, 0], .v (.int .i64 0)], .v (.int .u64 0)], .agg [.v (.int .u16 0), .v (.int .i64 0)], .v (.int .i64 0)])),
  (41, .int .u16),
  (42, .str [(0, 1), (1, 1)] [41, 3] (.agg [.v (.int .u16 0), .v (.int .i64 0)])),
  (43, .str [(0, 1), (1, 1)] [41, 3] (.agg [.v (.int .u16 0), .v (.int .i64 0)])),
  (47, .int .i64),
  (62, .str [(0, 35), (35, 2), (37, 1)] [29, 43, 3] (.agg [.agg [.agg [.ba 16 [0, 0, 0, 0, 0, 0, 0, 0, 0, 0, 0, 0, 0, 0, 0, 0], .v (.int .i64 0)], .agg [.ba 16 [0, 0, 0, 0, 0, 0, 0, 0, 0, 0, 0, 0, 0, 0, 0, 0], .v (.int .i64 0)], .v (.int .u64 0)], .agg [.v (.int .u16 0), .v (.int .i64 0)], .v (.int .i64 0)])),
  (63, .str [(0, 35), (35, 2), (37, 1)] [29, 43, 3] (.agg [.agg [.agg [.ba 16 [0, 0, 0, 0, 0, 0, 0, 0, 0, 0, 0, 0, 0, 0, 0, 0], .v (.int .i64 0)], .agg [.ba 16 [0, 0, 0, 0, 0, 0, 0, 0, 0, 0, 0, 0, 0, 0, 0, 0], .v (.int .i64 0)], .v (.int .u64 0)], .agg [.v (.int .u16 0), .v (.int .i64 0)], .v (.int .i64 0)])),
  (66, .str [(0, 1), (1, 1)] [30, 3] (.agg [.v (.slice none 0 0), .v (.int .i64 0)])),
  (67, .str [(0, 1), (1, 1)] [30, 3] (.agg [.v (.slice none 0 0), .v (.int .i64 0)])),
  (75, .slc 1 1 (.v (.int .u8 0))),
  (95, .int .u64),
  (109, .int .u32)]
def tt (t : Nat) : TI := lkT tbl t
theorem tiok2 : TIok Try.prog 2 (.int .i64) := ⟨fun _ => ⟨⟨8, by unfold infoIs; kernel_rfl⟩, by kernel_rfl⟩, show (Try.prog).underlying 2 = some (.int .i64) from by kernel_rfl⟩
theorem tiok3 : TIok Try.prog 3 (.int .i64) := ⟨fun _ => ⟨⟨8, by unfold infoIs; kernel_rfl⟩, by kernel_rfl⟩, show (Try.prog).underlying 3 = some (.int .i64) from by kernel_rfl⟩
theorem tiok4 : TIok Try.prog 4 (.bool) := ⟨fun _ => ⟨⟨1, by unfold infoIs; kernel_rfl⟩, by kernel_rfl⟩, show (Try.prog).underlying 4 = some .bool from by kernel_rfl⟩
theorem tiok5 : TIok Try.prog 5 (.int .u8) := ⟨fun _ => ⟨⟨1, by unfold infoIs; kernel_rfl⟩, by kernel_rfl⟩, show (Try.prog).underlying 5 = some (.int .u8) from by kernel_rfl⟩
theorem tiok12 : TIok Try.prog 12 (.int .u64) := ⟨fun _ => ⟨⟨8, by unfold infoIs; kernel_rfl⟩, by kernel_rfl⟩, show (Try.prog).underlying 12 = some (.int .u64) from by kernel_rfl⟩
theorem tiok21 : TIok Try.prog 21 (.int .i32) := ⟨fun _ => ⟨⟨4, by unfold infoIs; kernel_rfl⟩, by kernel_rfl⟩, show (Try.prog).underlying 21 = some (.int .i32) from by kernel_rfl⟩
theorem tiok22 : TIok Try.prog 22 (.arr 16 1 5 (.ba 16 [0, 0, 0, 0, 0, 0, 0, 0, 0, 0, 0, 0, 0, 0, 0, 0])) := ⟨fun _ => ⟨⟨16, by unfold infoIs; kernel_rfl⟩, by kernel_rfl⟩, ⟨by kernel_rfl, ⟨1, toVal (.v (.int .u8 0)), by unfold infoIs; kernel_rfl⟩, by kernel_rfl⟩⟩
theorem tiok23 : TIok Try.prog 23 (.arr 16 1 5 (.ba 16 [0, 0, 0, 0, 0, 0, 0, 0, 0, 0, 0, 0, 0, 0, 0, 0])) := ⟨fun _ => ⟨⟨16, by unfold infoIs; kernel_rfl⟩, by kernel_rfl⟩, ⟨by kernel_rfl, ⟨1, toVal (.v (.int .u8 0)), by unfold infoIs; kernel_rfl⟩, by kernel_rfl⟩⟩
theorem tiok24 : TIok Try.prog 24 (.str [(0, 16), (16, 1)] [23, 3] (.agg [.ba 16 [0, 0, 0, 0, 0, 0, 0, 0, 0, 0, 0, 0, 0, 0, 0, 0], .v (.int .i64 0)])) := ⟨fun _ => ⟨⟨24, by unfold infoIs; kernel_rfl⟩, by kernel_rfl⟩, ⟨by kernel_rfl, ⟨_, rfl, by kernel_rfl⟩, fun _ => ⟨by kernel_rfl, by kernel_rfl, by kernel_rfl⟩⟩⟩
theorem tiok25 : TIok Try.prog 25 (.str [(0, 16), (16, 1)] [23, 3] (.agg [.ba 16 [0, 0, 0, 0, 0, 0, 0, 0, 0, 0, 0, 0, 0, 0, 0, 0], .v (.int .i64 0)])) := ⟨fun _ => ⟨⟨24, by unfold infoIs; kernel_rfl⟩, by kernel_rfl⟩, ⟨by kernel_rfl, ⟨_, rfl, by kernel_rfl⟩, fun _ => ⟨by kernel_rfl, by kernel_rfl, by kernel_rfl⟩⟩⟩
theorem tiok26 : TIok Try.prog 26 (.int .u64) := ⟨fun _ => ⟨⟨8, by unfold infoIs; kernel_rfl⟩, by kernel_rfl⟩, show (Try.prog).underlying 26 = some (.int .u64) from by kernel_rfl⟩
theorem tiok27 : TIok Try.prog 27 (.int .u64) := ⟨fun _ => ⟨⟨8, by unfold infoIs; kernel_rfl⟩, by kernel_rfl⟩, show (Try.prog).underlying 27 = some (.int .u64) from by kernel_rfl⟩
theorem tiok28 : TIok Try.prog 28 (.str [(0, 17), (17, 17), (34, 1)] [25, 25, 27] (.agg [.agg [.ba 16 [0, 0, 0, 0, 0, 0, 0, 0, 0, 0, 0, 0, 0, 0, 0, 0], .v (.int .i64 0)], .agg [.ba 16 [0, 0, 0, 0, 0, 0, 0, 0, 0, 0, 0, 0, 0, 0, 0, 0], .v (.int .i64 0)], .v (.int .u64 0)])) := ⟨fun _ => ⟨⟨56, by unfold infoIs; kernel_rfl⟩, by kernel_rfl⟩, ⟨by kernel_rfl, ⟨_, rfl, by kernel_rfl⟩, fun _ => ⟨by kernel_rfl, by kernel_rfl, by kernel_rfl⟩⟩⟩
theorem tiok29 : TIok Try.prog 29 (.str [(0, 17), (17, 17), (34, 1)] [25, 25, 27] (.agg [.agg [.ba 16 [0, 0, 0, 0, 0, 0, 0, 0, 0, 0, 0, 0, 0, 0, 0, 0], .v (.int .i64 0)], .agg [.ba 16 [0, 0, 0, 0, 0, 0, 0, 0, 0, 0, 0, 0, 0, 0, 0, 0], .v (.int .i64 0)], .v (.int .u64 0)])) := ⟨fun _ => ⟨⟨56, by unfold infoIs; kernel_rfl⟩, by kernel_rfl⟩, ⟨by kernel_rfl, ⟨_, rfl, by kernel_rfl⟩, fun _ => ⟨by kernel_rfl, by kernel_rfl, by kernel_rfl⟩⟩⟩
theorem tiok30 : TIok Try.prog 30 (.slc 1 8 (.v (.int .i64 0))) := ⟨fun _ => ⟨⟨24, by unfold infoIs; kernel_rfl⟩, by kernel_rfl⟩, ⟨3, by kernel_rfl, by unfold infoIs; kernel_rfl, by kernel_rfl, by kernel_rfl⟩⟩
theorem tiok34 : TIok Try.prog 34 (.slc 35 56 (.agg [.agg [.ba 16 [0, 0, 0, 0, 0, 0, 0, 0, 0, 0, 0, 0, 0, 0, 0, 0], .v (.int .i64 0)], .agg [.ba 16 [0, 0, 0, 0, 0, 0, 0, 0, 0, 0, 0, 0, 0, 0, 0, 0], .v (.int .i64 0)], .v (.int .u64 0)])) := ⟨fun _ => ⟨⟨24, by unfold infoIs; kernel_rfl⟩, by kernel_rfl⟩, ⟨29, by kernel_rfl, by unfold infoIs; kernel_rfl, by kernel_rfl, by kernel_rfl⟩⟩
theorem tiok39 : TIok Try.prog 39 (.slc 38 80 (.agg [.agg [.agg [.ba 16 [0, 0, 0, 0, 0, 0, 0, 0, 0, 0, 0, 0, 0, 0, 0, 0], .v (.int .i64 0)], .agg [.ba 16 [0, 0, 0, 0, 0, 0, 0, 0, 0, 0, 0, 0, 0, 0, 0, 0], .v (.int .i64 0)], .v (.int .u64 0)], .agg [.v (.int .u16 0), .v (.int .i64 0)], .v (.int .i64 0)])) := ⟨fun _ => ⟨⟨24, by unfold infoIs; kernel_rfl⟩, by kernel_rfl⟩, ⟨63, by kernel_rfl, by unfold infoIs; kernel_rfl, by kernel_rfl, by kernel_rfl⟩⟩
theorem tiok41 : TIok Try.prog 41 (.int .u16) := ⟨fun _ => ⟨⟨2, by unfold infoIs; kernel_rfl⟩, by kernel_rfl⟩, show (Try.prog).underlying 41 = some (.int .u16) from by kernel_rfl⟩
theorem tiok42 : TIok Try.prog 42 (.str [(0, 1), (1, 1)] [41, 3] (.agg [.v (.int .u16 0), .v (.int .i64 0)])) := ⟨fun _ => ⟨⟨16, by unfold infoIs; kernel_rfl⟩, by kernel_rfl⟩, ⟨by kernel_rfl, ⟨_, rfl, by kernel_rfl⟩, fun _ => ⟨by kernel_rfl, by kernel_rfl, by kernel_rfl⟩⟩⟩
theorem tiok43 : TIok Try.prog 43 (.str [(0, 1), (1, 1)] [41, 3] (.agg [.v (.int .u16 0), .v (.int .i64 0)])) := ⟨fun _ => ⟨⟨16, by unfold infoIs; kernel_rfl⟩, by kernel_rfl⟩, ⟨by kernel_rfl, ⟨_, rfl, by kernel_rfl⟩, fun _ => ⟨by kernel_rfl, by kernel_rfl, by kernel_rfl⟩⟩⟩
theorem tiok47 : TIok Try.prog 47 (.int .i64) := ⟨fun _ => ⟨⟨8, by unfold infoIs; kernel_rfl⟩, by kernel_rfl⟩, show (Try.prog).underlying 47 = some (.int .i64) from by kernel_rfl⟩
theorem tiok62 : TIok Try.prog 62 (.str [(0, 35), (35, 2), (37, 1)] [29, 43, 3] (.agg [.agg [.agg [.ba 16 [0, 0, 0, 0, 0, 0, 0, 0, 0, 0, 0, 0, 0, 0, 0, 0], .v (.int .i64 0)], .agg [.ba 16 [0, 0, 0, 0, 0, 0, 0, 0, 0, 0, 0, 0, 0, 0, 0, 0], .v (.int .i64 0)], .v (.int .u64 0)], .agg [.v (.int .u16 0), .v (.int .i64 0)], .v (.int .i64 0)])) := ⟨fun _ => ⟨⟨80, by unfold infoIs; kernel_rfl⟩, by kernel_rfl⟩, ⟨by kernel_rfl, ⟨_, rfl, by kernel_rfl⟩, fun _ => ⟨by kernel_rfl, by kernel_rfl, by kernel_rfl⟩⟩⟩
theorem tiok63 : TIok Try.prog 63 (.str [(0, 35), (35, 2), (37, 1)] [29, 43, 3] (.agg [.agg [.agg [.ba 16 [0, 0, 0, 0, 0, 0, 0, 0, 0, 0, 0, 0, 0, 0, 0, 0], .v (.int .i64 0)], .agg [.ba 16 [0, 0, 0, 0, 0, 0, 0, 0, 0, 0, 0, 0, 0, 0, 0, 0], .v (.int .i64 0)], .v (.int .u64 0)], .agg [.v (.int .u16 0), .v (.int .i64 0)], .v (.int .i64 0)])) := ⟨fun _ => ⟨⟨80, by unfold infoIs; kernel_rfl⟩, by kernel_rfl⟩, ⟨by kernel_rfl, ⟨_, rfl, by kernel_rfl⟩, fun _ => ⟨by kernel_rfl, by kernel_rfl, by kernel_rfl⟩⟩⟩
theorem tiok66 : TIok Try.prog 66 (.str [(0, 1), (1, 1)] [30, 3] (.agg [.v (.slice none 0 0), .v (.int .i64 0)])) := ⟨fun _ => ⟨⟨32, by unfold infoIs; kernel_rfl⟩, by kernel_rfl⟩, ⟨by kernel_rfl, ⟨_, rfl, by kernel_rfl⟩, fun _ => ⟨by kernel_rfl, by kernel_rfl, by kernel_rfl⟩⟩⟩
theorem tiok67 : TIok Try.prog 67 (.str [(0, 1), (1, 1)] [30, 3] (.agg [.v (.slice none 0 0), .v (.int .i64 0)])) := ⟨fun _ => ⟨⟨32, by unfold infoIs; kernel_rfl⟩, by kernel_rfl⟩, ⟨by kernel_rfl, ⟨_, rfl, by kernel_rfl⟩, fun _ => ⟨by kernel_rfl, by kernel_rfl, by kernel_rfl⟩⟩⟩
theorem tiok75 : TIok Try.prog 75 (.slc 1 1 (.v (.int .u8 0))) := ⟨fun _ => ⟨⟨24, by unfold infoIs; kernel_rfl⟩, by kernel_rfl⟩, ⟨5, by kernel_rfl, by unfold infoIs; kernel_rfl, by kernel_rfl, by kernel_rfl⟩⟩
theorem tiok95 : TIok Try.prog 95 (.int .u64) := ⟨fun _ => ⟨⟨8, by unfold infoIs; kernel_rfl⟩, by kernel_rfl⟩, show (Try.prog).underlying 95 = some (.int .u64) from by kernel_rfl⟩
theorem tiok109 : TIok Try.prog 109 (.int .u32) := ⟨fun _ => ⟨⟨4, by unfold infoIs; kernel_rfl⟩, by kernel_rfl⟩, show (Try.prog).underlying 109 = some (.int .u32) from by kernel_rfl⟩
theorem ttok : TTok Try.prog tt := lkT_ok (l := tbl) ⟨tiok2, tiok3, tiok4, tiok5, tiok12, tiok21, tiok22, tiok23, tiok24, tiok25, tiok26, tiok27, tiok28, tiok29, tiok30, tiok34, tiok39, tiok41, tiok42, tiok43, tiok47, tiok62, tiok63, tiok66, tiok67, tiok75, tiok95, tiok109, trivial⟩
theorem mixed : (Try.prog).follows .mixedOrders = true := by kernel_rfl
end Go.Fw
