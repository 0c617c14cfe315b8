/- The types of this seat, as the executor wants them. -/
import Derived.Test.YtgkkceoocaincaaFwAO
import Derived.Test.YtgkkceoocaincaaProg
namespace Go.Fw
open Go.Proofs
def tbl : List (Nat × TI) := [
  (2, .int .i64),
  (3, .int .i64),
  (4, .bool),
  (5, .int .u8),
  (12, .int .u64),
  (21, .int .i32),
  (22, .int .u16),
  (26, .slc 1 8 (.v (.int .i64 0))),
  (29, .str [(0, 1), (1, 1)] [22, 3] (.agg [.v (.int .u16 0), .v (.int .i64 0)])),
  (30, .str [(0, 1), (1, 1)] [22, 3] (.agg [.v (.int .u16 0), .v (.int .i64 0)])),
  (31, .arr 5 2 30 (.agg [.agg [.v (.int .u16 0), .v (.int .i64 0)], .agg [.v (.int .u16 0), .v (.int .i64 0)], .agg [.v (.int .u16 0), .v (.int .i64 0)], .agg [.v (.int .u16 0), .v (.int .i64 0)], .agg [.v (.int .u16 0), .v (.int .i64 0)]])),
  (37, .slc 2 16 (.agg [.v (.int .u16 0), .v (.int .i64 0)])),
  (47, .str [(0, 1), (1, 1)] [26, 3] (.agg [.v (.slice none 0 0), .v (.int .i64 0)])),
  (48, .str [(0, 1), (1, 1)] [26, 3] (.agg [.v (.slice none 0 0), .v (.int .i64 0)])),
  (58, .int .u32)]
def tt (t : Nat) : TI := lkT tbl t
theorem tiok2 : TIok Try.prog 2 (.int .i64) := ⟨fun _ => ⟨⟨8, by unfold infoIs; kernel_rfl⟩, by kernel_rfl⟩, show (Try.prog).underlying 2 = some (.int .i64) from by kernel_rfl⟩
theorem tiok3 : TIok Try.prog 3 (.int .i64) := ⟨fun _ => ⟨⟨8, by unfold infoIs; kernel_rfl⟩, by kernel_rfl⟩, show (Try.prog).underlying 3 = some (.int .i64) from by kernel_rfl⟩
theorem tiok4 : TIok Try.prog 4 (.bool) := ⟨fun _ => ⟨⟨1, by unfold infoIs; kernel_rfl⟩, by kernel_rfl⟩, show (Try.prog).underlying 4 = some .bool from by kernel_rfl⟩
theorem tiok5 : TIok Try.prog 5 (.int .u8) := ⟨fun _ => ⟨⟨1, by unfold infoIs; kernel_rfl⟩, by kernel_rfl⟩, show (Try.prog).underlying 5 = some (.int .u8) from by kernel_rfl⟩
theorem tiok12 : TIok Try.prog 12 (.int .u64) := ⟨fun _ => ⟨⟨8, by unfold infoIs; kernel_rfl⟩, by kernel_rfl⟩, show (Try.prog).underlying 12 = some (.int .u64) from by kernel_rfl⟩
theorem tiok21 : TIok Try.prog 21 (.int .i32) := ⟨fun _ => ⟨⟨4, by unfold infoIs; kernel_rfl⟩, by kernel_rfl⟩, show (Try.prog).underlying 21 = some (.int .i32) from by kernel_rfl⟩
theorem tiok22 : TIok Try.prog 22 (.int .u16) := ⟨fun _ => ⟨⟨2, by unfold infoIs; kernel_rfl⟩, by kernel_rfl⟩, show (Try.prog).underlying 22 = some (.int .u16) from by kernel_rfl⟩
theorem tiok26 : TIok Try.prog 26 (.slc 1 8 (.v (.int .i64 0))) := ⟨fun _ => ⟨⟨24, by unfold infoIs; kernel_rfl⟩, by kernel_rfl⟩, ⟨3, by kernel_rfl, by unfold infoIs; kernel_rfl, by kernel_rfl, by kernel_rfl⟩⟩
theorem tiok29 : TIok Try.prog 29 (.str [(0, 1), (1, 1)] [22, 3] (.agg [.v (.int .u16 0), .v (.int .i64 0)])) := ⟨fun _ => ⟨⟨16, by unfold infoIs; kernel_rfl⟩, by kernel_rfl⟩, ⟨by kernel_rfl, ⟨_, rfl, by kernel_rfl⟩, fun _ => ⟨by kernel_rfl, by kernel_rfl, by kernel_rfl⟩⟩⟩
theorem tiok30 : TIok Try.prog 30 (.str [(0, 1), (1, 1)] [22, 3] (.agg [.v (.int .u16 0), .v (.int .i64 0)])) := ⟨fun _ => ⟨⟨16, by unfold infoIs; kernel_rfl⟩, by kernel_rfl⟩, ⟨by kernel_rfl, ⟨_, rfl, by kernel_rfl⟩, fun _ => ⟨by kernel_rfl, by kernel_rfl, by kernel_rfl⟩⟩⟩
theorem tiok31 : TIok Try.prog 31 (.arr 5 2 30 (.agg [.agg [.v (.int .u16 0), .v (.int .i64 0)], .agg [.v (.int .u16 0), .v (.int .i64 0)], .agg [.v (.int .u16 0), .v (.int .i64 0)], .agg [.v (.int .u16 0), .v (.int .i64 0)], .agg [.v (.int .u16 0), .v (.int .i64 0)]])) := ⟨fun _ => ⟨⟨80, by unfold infoIs; kernel_rfl⟩, by kernel_rfl⟩, ⟨by kernel_rfl, ⟨16, toVal (.agg [.v (.int .u16 0), .v (.int .i64 0)]), by unfold infoIs; kernel_rfl⟩, by kernel_rfl⟩⟩
theorem tiok37 : TIok Try.prog 37 (.slc 2 16 (.agg [.v (.int .u16 0), .v (.int .i64 0)])) := ⟨fun _ => ⟨⟨24, by unfold infoIs; kernel_rfl⟩, by kernel_rfl⟩, ⟨30, by kernel_rfl, by unfold infoIs; kernel_rfl, by kernel_rfl, by kernel_rfl⟩⟩
theorem tiok47 : TIok Try.prog 47 (.str [(0, 1), (1, 1)] [26, 3] (.agg [.v (.slice none 0 0), .v (.int .i64 0)])) := ⟨fun _ => ⟨⟨32, by unfold infoIs; kernel_rfl⟩, by kernel_rfl⟩, ⟨by kernel_rfl, ⟨_, rfl, by kernel_rfl⟩, fun _ => ⟨by kernel_rfl, by kernel_rfl, by kernel_rfl⟩⟩⟩
theorem tiok48 : TIok Try.prog 48 (.str [(0, 1), (1, 1)] [26, 3] (.agg [.v (.slice none 0 0), .v (.int .i64 0)])) := ⟨fun _ => ⟨⟨32, by unfold infoIs; kernel_rfl⟩, by kernel_rfl⟩, ⟨by kernel_rfl, ⟨_, rfl, by kernel_rfl⟩, fun _ => ⟨by kernel_rfl, by kernel_rfl, by kernel_rfl⟩⟩⟩
theorem tiok58 : TIok Try.prog 58 (.int .u32) := ⟨fun _ => ⟨⟨4, by unfold infoIs; kernel_rfl⟩, by kernel_rfl⟩, show (Try.prog).underlying 58 = some (.int .u32) from by kernel_rfl⟩
theorem ttok : TTok Try.prog tt := lkT_ok (l := tbl) ⟨tiok2, tiok3, tiok4, tiok5, tiok12, tiok21, tiok22, tiok26, tiok29, tiok30, tiok31, tiok37, tiok47, tiok48, tiok58, trivial⟩
theorem mixed : (Try.prog).follows .mixedOrders = true := by kernel_rfl
end Go.Fw
