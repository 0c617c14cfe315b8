/- The types of this seat, as the executor wants them. -/
import Derived.Test.YtlddbblbjddckaaDoorFm5
import Derived.Test.YtlddbblbjddckaaDoorProg
namespace Go.Fw
open Go.Proofs
def tbl : List (Nat × TI) := [
  (2, .int .i64),
  (3, .int .i64),
  (4, .bool),
  (5, .int .u8),
  (12, .int .u64),
  (21, .int .i32),
  (22, .slc 1 8 (.v (.int .i64 0))),
  (25, .arr 16 1 5 (.ba 16 [0, 0, 0, 0, 0, 0, 0, 0, 0, 0, 0, 0, 0, 0, 0, 0])),
  (26, .arr 16 1 5 (.ba 16 [0, 0, 0, 0, 0, 0, 0, 0, 0, 0, 0, 0, 0, 0, 0, 0])),
  (29, .slc 23 72 (.agg [.ba 16 [0, 0, 0, 0, 0, 0, 0, 0, 0, 0, 0, 0, 0, 0, 0, 0], .v (.int .u64 0), .v (.int .u8 0), .agg [.v (.int .i64 0), .v (.int .u16 0), .v (.int .u64 0)], .v (.int .i64 0), .v (.int .i64 0)])),
  (30, .int .i64),
  (33, .int .u64),
  (34, .int .u64),
  (35, .int .u16),
  (36, .str [(0, 1), (1, 1), (2, 1), (3, 1)] [34, 5, 5, 35] (.agg [.v (.int .u64 0), .v (.int .u8 0), .v (.int .u8 0), .v (.int .u16 0)])),
  (37, .str [(0, 1), (1, 1), (2, 1), (3, 1)] [34, 5, 5, 35] (.agg [.v (.int .u64 0), .v (.int .u8 0), .v (.int .u8 0), .v (.int .u16 0)])),
  (38, .int .u16),
  (39, .str [(0, 1), (1, 1), (2, 1)] [3, 38, 34] (.agg [.v (.int .i64 0), .v (.int .u16 0), .v (.int .u64 0)])),
  (40, .str [(0, 1), (1, 1), (2, 1)] [3, 38, 34] (.agg [.v (.int .i64 0), .v (.int .u16 0), .v (.int .u64 0)])),
  (43, .str [(0, 16), (16, 1), (17, 1), (18, 3), (21, 1), (22, 1)] [26, 34, 5, 40, 3, 3] (.agg [.ba 16 [0, 0, 0, 0, 0, 0, 0, 0, 0, 0, 0, 0, 0, 0, 0, 0], .v (.int .u64 0), .v (.int .u8 0), .agg [.v (.int .i64 0), .v (.int .u16 0), .v (.int .u64 0)], .v (.int .i64 0), .v (.int .i64 0)])),
  (44, .str [(0, 16), (16, 1), (17, 1), (18, 3), (21, 1), (22, 1)] [26, 34, 5, 40, 3, 3] (.agg [.ba 16 [0, 0, 0, 0, 0, 0, 0, 0, 0, 0, 0, 0, 0, 0, 0, 0], .v (.int .u64 0), .v (.int .u8 0), .agg [.v (.int .i64 0), .v (.int .u16 0), .v (.int .u64 0)], .v (.int .i64 0), .v (.int .i64 0)])),
  (53, .slc 1 1 (.v (.int .u8 0))),
  (68, .str [(0, 1), (1, 1)] [22, 3] (.agg [.v (.slice none 0 0), .v (.int .i64 0)])),
  (69, .str [(0, 1), (1, 1)] [22, 3] (.agg [.v (.slice none 0 0), .v (.int .i64 0)])),
  (85, .slc 1 8 (.v (.int .u64 0))),
  (89, .int .u64),
  (100, .int .u32)]
def tt (t : Nat) : TI := lkT tbl t
theorem tiok2 : TIok Tryd.prog 2 (.int .i64) := ⟨fun _ => ⟨⟨8, by unfold infoIs; kernel_rfl⟩, by kernel_rfl⟩, show (Tryd.prog).underlying 2 = some (.int .i64) from by kernel_rfl⟩
theorem tiok3 : TIok Tryd.prog 3 (.int .i64) := ⟨fun _ => ⟨⟨8, by unfold infoIs; kernel_rfl⟩, by kernel_rfl⟩, show (Tryd.prog).underlying 3 = some (.int .i64) from by kernel_rfl⟩
theorem tiok4 : TIok Tryd.prog 4 (.bool) := ⟨fun _ => ⟨⟨1, by unfold infoIs; kernel_rfl⟩, by kernel_rfl⟩, show (Tryd.prog).underlying 4 = some .bool from by kernel_rfl⟩
theorem tiok5 : TIok Tryd.prog 5 (.int .u8) := ⟨fun _ => ⟨⟨1, by unfold infoIs; kernel_rfl⟩, by kernel_rfl⟩, show (Tryd.prog).underlying 5 = some (.int .u8) from by kernel_rfl⟩
theorem tiok12 : TIok Tryd.prog 12 (.int .u64) := ⟨fun _ => ⟨⟨8, by unfold infoIs; kernel_rfl⟩, by kernel_rfl⟩, show (Tryd.prog).underlying 12 = some (.int .u64) from by kernel_rfl⟩
theorem tiok21 : TIok Tryd.prog 21 (.int .i32) := ⟨fun _ => ⟨⟨4, by unfold infoIs; kernel_rfl⟩, by kernel_rfl⟩, show (Tryd.prog).underlying 21 = some (.int .i32) from by kernel_rfl⟩
theorem tiok22 : TIok Tryd.prog 22 (.slc 1 8 (.v (.int .i64 0))) := ⟨fun _ => ⟨⟨24, by unfold infoIs; kernel_rfl⟩, by kernel_rfl⟩, ⟨3, by kernel_rfl, by unfold infoIs; kernel_rfl, by kernel_rfl, by kernel_rfl⟩⟩
theorem tiok25 : TIok Tryd.prog 25 (.arr 16 1 5 (.ba 16 [0, 0, 0, 0, 0, 0, 0, 0, 0, 0, 0, 0, 0, 0, 0, 0])) := ⟨fun _ => ⟨⟨16, by unfold infoIs; kernel_rfl⟩, by kernel_rfl⟩, ⟨by kernel_rfl, ⟨1, toVal (.v (.int .u8 0)), by unfold infoIs; kernel_rfl⟩, by kernel_rfl⟩⟩
theorem tiok26 : TIok Tryd.prog 26 (.arr 16 1 5 (.ba 16 [0, 0, 0, 0, 0, 0, 0, 0, 0, 0, 0, 0, 0, 0, 0, 0])) := ⟨fun _ => ⟨⟨16, by unfold infoIs; kernel_rfl⟩, by kernel_rfl⟩, ⟨by kernel_rfl, ⟨1, toVal (.v (.int .u8 0)), by unfold infoIs; kernel_rfl⟩, by kernel_rfl⟩⟩
theorem tiok29 : TIok Tryd.prog 29 (.slc 23 72 (.agg [.ba 16 [0, 0, 0, 0, 0, 0, 0, 0, 0, 0, 0, 0, 0, 0, 0, 0], .v (.int .u64 0), .v (.int .u8 0), .agg [.v (.int .i64 0), .v (.int .u16 0), .v (.int .u64 0)], .v (.int .i64 0), .v (.int .i64 0)])) := ⟨fun _ => ⟨⟨24, by unfold infoIs; kernel_rfl⟩, by kernel_rfl⟩, ⟨44, by kernel_rfl, by unfold infoIs; kernel_rfl, by kernel_rfl, by kernel_rfl⟩⟩
theorem tiok30 : TIok Tryd.prog 30 (.int .i64) := ⟨fun _ => ⟨⟨8, by unfold infoIs; kernel_rfl⟩, by kernel_rfl⟩, show (Tryd.prog).underlying 30 = some (.int .i64) from by kernel_rfl⟩
theorem tiok33 : TIok Tryd.prog 33 (.int .u64) := ⟨fun _ => ⟨⟨8, by unfold infoIs; kernel_rfl⟩, by kernel_rfl⟩, show (Tryd.prog).underlying 33 = some (.int .u64) from by kernel_rfl⟩
theorem tiok34 : TIok Tryd.prog 34 (.int .u64) := ⟨fun _ => ⟨⟨8, by unfold infoIs; kernel_rfl⟩, by kernel_rfl⟩, show (Tryd.prog).underlying 34 = some (.int .u64) from by kernel_rfl⟩
theorem tiok35 : TIok Tryd.prog 35 (.int .u16) := ⟨fun _ => ⟨⟨2, by unfold infoIs; kernel_rfl⟩, by kernel_rfl⟩, show (Tryd.prog).underlying 35 = some (.int .u16) from by kernel_rfl⟩
theorem tiok36 : TIok Tryd.prog 36 (.str [(0, 1), (1, 1), (2, 1), (3, 1)] [34, 5, 5, 35] (.agg [.v (.int .u64 0), .v (.int .u8 0), .v (.int .u8 0), .v (.int .u16 0)])) := ⟨fun _ => ⟨⟨16, by unfold infoIs; kernel_rfl⟩, by kernel_rfl⟩, ⟨by kernel_rfl, ⟨_, rfl, by kernel_rfl⟩, fun _ => ⟨by kernel_rfl, by kernel_rfl, by kernel_rfl⟩⟩⟩
theorem tiok37 : TIok Tryd.prog 37 (.str [(0, 1), (1, 1), (2, 1), (3, 1)] [34, 5, 5, 35] (.agg [.v (.int .u64 0), .v (.int .u8 0), .v (.int .u8 0), .v (.int .u16 0)])) := ⟨fun _ => ⟨⟨16, by unfold infoIs; kernel_rfl⟩, by kernel_rfl⟩, ⟨by kernel_rfl, ⟨_, rfl, by kernel_rfl⟩, fun _ => ⟨by kernel_rfl, by kernel_rfl, by kernel_rfl⟩⟩⟩
theorem tiok38 : TIok Tryd.prog 38 (.int .u16) := ⟨fun _ => ⟨⟨2, by unfold infoIs; kernel_rfl⟩, by kernel_rfl⟩, show (Tryd.prog).underlying 38 = some (.int .u16) from by kernel_rfl⟩
theorem tiok39 : TIok Tryd.prog 39 (.str [(0, 1), (1, 1), (2, 1)] [3, 38, 34] (.agg [.v (.int .i64 0), .v (.int .u16 0), .v (.int .u64 0)])) := ⟨fun _ => ⟨⟨24, by unfold infoIs; kernel_rfl⟩, by kernel_rfl⟩, ⟨by kernel_rfl, ⟨_, rfl, by kernel_rfl⟩, fun _ => ⟨by kernel_rfl, by kernel_rfl, by kernel_rfl⟩⟩⟩
theorem tiok40 : TIok Tryd.prog 40 (.str [(0, 1), (1, 1), (2, 1)] [3, 38, 34] (.agg [.v (.int .i64 0), .v (.int .u16 0), .v (.int .u64 0)])) := ⟨fun _ => ⟨⟨24, by unfold infoIs; kernel_rfl⟩, by kernel_rfl⟩, ⟨by kernel_rfl, ⟨_, rfl, by kernel_rfl⟩, fun _ => ⟨by kernel_rfl, by kernel_rfl, by kernel_rfl⟩⟩⟩
theorem tiok43 : TIok Tryd.prog 43 (.str [(0, 16), (16, 1), (17, 1), (18, 3), (21, 1), (22, 1)] [26, 34, 5, 40, 3, 3] (.agg [.ba 16 [0, 0, 0, 0, 0, 0, 0, 0, 0, 0, 0, 0, 0, 0, 0, 0], .v (.int .u64 0), .v (.int .u8 0), .agg [.v (.int .i64 0), .v (.int .u16 0), .v (.int .u64 0)], .v (.int .i64 0), .v (.int .i64 0)])) := ⟨fun _ => ⟨⟨72, by unfold infoIs; kernel_rfl⟩, by kernel_rfl⟩, ⟨by kernel_rfl, ⟨_, rfl, by kernel_rfl⟩, fun _ => ⟨by kernel_rfl, by kernel_rfl, by kernel_rfl⟩⟩⟩
theorem tiok44 : TIok Tryd.prog 44 (.str [(0, 16), (16, 1), (17, 1), (18, 3), (21, 1), (22, 1)] [26, 34, 5, 40, 3, 3] (.agg [.ba 16 [0, 0, 0, 0, 0, 0, 0, 0, 0, 0, 0, 0, 0, 0, 0, 0], .v (.int .u64 0), .v (.int .u8 0), .agg [.v (.int .i64 0), .v (.int .u16 0), .v (.int .u64 0)], .v (.int .i64 0), .v (.int .i64 0)])) := ⟨fun _ => ⟨⟨72, by unfold infoIs; kernel_rfl⟩, by kernel_rfl⟩, ⟨by kernel_rfl, ⟨_, rfl, by kernel_rfl⟩, fun _ => ⟨by kernel_rfl, by kernel_rfl, by kernel_rfl⟩⟩⟩
theorem tiok53 : TIok Tryd.prog 53 (.slc 1 1 (.v (.int .u8 0))) := ⟨fun _ => ⟨⟨24, by unfold infoIs; kernel_rfl⟩, by kernel_rfl⟩, ⟨5, by kernel_rfl, by unfold infoIs; kernel_rfl, by kernel_rfl, by kernel_rfl⟩⟩
theorem tiok68 : TIok Tryd.prog 68 (.str [(0, 1), (1, 1)] [22, 3] (.agg [.v (.slice none 0 0), .v (.int .i64 0)])) := ⟨fun _ => ⟨⟨32, by unfold infoIs; kernel_rfl⟩, by kernel_rfl⟩, ⟨by kernel_rfl, ⟨_, rfl, by kernel_rfl⟩, fun _ => ⟨by kernel_rfl, by kernel_rfl, by kernel_rfl⟩⟩⟩
theorem tiok69 : TIok Tryd.prog 69 (.str [(0, 1), (1, 1)] [22, 3] (.agg [.v (.slice none 0 0), .v (.int .i64 0)])) := ⟨fun _ => ⟨⟨32, by unfold infoIs; kernel_rfl⟩, by kernel_rfl⟩, ⟨by kernel_rfl, ⟨_, rfl, by kernel_rfl⟩, fun _ => ⟨by kernel_rfl, by kernel_rfl, by kernel_rfl⟩⟩⟩
theorem tiok85 : TIok Tryd.prog 85 (.slc 1 8 (.v (.int .u64 0))) := ⟨fun _ => ⟨⟨24, by unfold infoIs; kernel_rfl⟩, by kernel_rfl⟩, ⟨33, by kernel_rfl, by unfold infoIs; kernel_rfl, by kernel_rfl, by kernel_rfl⟩⟩
theorem tiok89 : TIok Tryd.prog 89 (.int .u64) := ⟨fun _ => ⟨⟨8, by unfold infoIs; kernel_rfl⟩, by kernel_rfl⟩, show (Tryd.prog).underlying 89 = some (.int .u64) from by kernel_rfl⟩
theorem tiok100 : TIok Tryd.prog 100 (.int .u32) := ⟨fun _ => ⟨⟨4, by unfold infoIs; kernel_rfl⟩, by kernel_rfl⟩, show (Tryd.prog).underlying 100 = some (.int .u32) from by kernel_rfl⟩
theorem ttok : TTok Tryd.prog tt := lkT_ok (l := tbl) ⟨tiok2, tiok3, tiok4, tiok5, tiok12, tiok21, tiok22, tiok25, tiok26, tiok29, tiok30, tiok33, tiok34, tiok35, tiok36, tiok37, tiok38, tiok39, tiok40, tiok43, tiok44, tiok53, tiok68, tiok69, tiok85, tiok89, tiok100, trivial⟩
theorem mixed : (Tryd.prog).follows .mixedOrders = true := by kernel_rfl
end Go.Fw
