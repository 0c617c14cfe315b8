/- The types of this seat, as the executor wants them. -/
import Derived.Test.YteebplkhnhpiiaaFm5
import Derived.Test.YteebplkhnhpiiaaProg
namespace Go.Fw
open Go.Proofs
def tbl : List (Nat × TI) := [
  (2, .int .i64),
  (3, .int .i64),
  (4, .bool),
  (5, .int .u8),
  (9, .sc (.v (.string ⟨#[]⟩))),
  (12, .int .u64),
  (21, .int .i32),
  (22, .slc 10 96 (.agg [.agg [.v (.int .i64 0), .v (.int .u16 0), .v (.int .u64 0)], .agg [.v (.int .i64 0), .v (.int .u16 0), .v (.int .u64 0)], .v (.int .u16 0), .v (.int .i64 0), .v (.slice none 0 0), .v (.int .i64 0)])),
  (23, .int .u16),
  (24, .int .u16),
  (25, .int .u64),
  (26, .int .u64),
  (27, .str [(0, 1), (1, 1), (2, 1)] [3, 24, 26] (.agg [.v (.int .i64 0), .v (.int .u16 0), .v (.int .u64 0)])),
  (28, .str [(0, 1), (1, 1), (2, 1)] [3, 24, 26] (.agg [.v (.int .i64 0), .v (.int .u16 0), .v (.int .u64 0)])),
  (29, .slc 1 1 (.v (.int .u8 0))),
  (30, .str [(0, 1), (1, 1), (2, 1), (3, 1)] [3, 23, 3, 29] (.agg [.v (.int .i64 0), .v (.int .u16 0), .v (.int .i64 0), .v (.slice none 0 0)])),
  (31, .str [(0, 1), (1, 1), (2, 1), (3, 1)] [3, 23, 3, 29] (.agg [.v (.int .i64 0), .v (.int .u16 0), .v (.int .i64 0), .v (.slice none 0 0)])),
  (32, .slc 1 8 (.v (.int .i64 0))),
  (37, .slc 4 48 (.agg [.v (.int .i64 0), .v (.int .u16 0), .v (.int .i64 0), .v (.slice none 0 0)])),
  (40, .str [(0, 3), (3, 3), (6, 1), (7, 1), (8, 1), (9, 1)] [28, 28, 23, 3, 37, 3] (.agg [.agg [.v (.int .i64 0), .v (.int .u16 0), .v (.int .u64 0)], .agg [.v (.int .i64 0), .v (.int .u16 0), .v (.int .u64 0)], .v (.int .u16 0), .v (.int .i64 0), .v (.slice none 0 0), .v (.int .i64 0)])),
  (41, .str [(0, 3), (3, 3), (6, 1), (7, 1), (8, 1), (9, 1)] [28, 28, 23, 3, 37, 3] (.agg [.agg [.v (.int .i64 0), .v (.int .u16 0), .v (.int .u64 0)], .agg [.v (.int .i64 0), .v (.int .u16 0), .v (.int .u64 0)], .v (.int .u16 0), .v (.int .i64 0), .v (.slice none 0 0), .v (.int .i64 0)])),
  (49, .slc 1 24 (.v (.slice none 0 0))),
  (50, .int .i64),
  (59, .slc 1 1 (.v (.bool false))),
  (65, .str [(0, 1), (1, 1)] [32, 3] (.agg [.v (.slice none 0 0), .v (.int .i64 0)])),
  (66, .str [(0, 1), (1, 1)] [32, 3] (.agg [.v (.slice none 0 0), .v (.int .i64 0)])),
  (86, .arr 5 1 5 (.ba 5 [0, 0, 0, 0, 0])),
  (100, .int .u32)]
def tt (t : Nat) : TI := lkT tbl t
theorem tiok2 : TIok Try.prog 2 (.int .i64) := ⟨fun _ => ⟨⟨8, by unfold infoIs; kernel_rfl⟩, by kernel_rfl⟩, show (Try.prog).underlying 2 = some (.int .i64) from by kernel_rfl⟩
theorem tiok3 : TIok Try.prog 3 (.int .i64) := ⟨fun _ => ⟨⟨8, by unfold infoIs; kernel_rfl⟩, by kernel_rfl⟩, show (Try.prog).underlying 3 = some (.int .i64) from by kernel_rfl⟩
theorem tiok4 : TIok Try.prog 4 (.bool) := ⟨fun _ => ⟨⟨1, by unfold infoIs; kernel_rfl⟩, by kernel_rfl⟩, show (Try.prog).underlying 4 = some .bool from by kernel_rfl⟩
theorem tiok5 : TIok Try.prog 5 (.int .u8) := ⟨fun _ => ⟨⟨1, by unfold infoIs; kernel_rfl⟩, by kernel_rfl⟩, show (Try.prog).underlying 5 = some (.int .u8) from by kernel_rfl⟩
theorem tiok9 : TIok Try.prog 9 (.sc (.v (.string ⟨#[]⟩))) := ⟨fun _ => ⟨⟨16, by unfold infoIs; kernel_rfl⟩, by kernel_rfl⟩, ⟨rfl, ⟨.string, by kernel_rfl, rfl⟩, fun _ _ => by kernel_rfl⟩⟩
theorem tiok12 : TIok Try.prog 12 (.int .u64) := ⟨fun _ => ⟨⟨8, by unfold infoIs; kernel_rfl⟩, by kernel_rfl⟩, show (Try.prog).underlying 12 = some (.int .u64) from by kernel_rfl⟩
theorem tiok21 : TIok Try.prog 21 (.int .i32) := ⟨fun _ => ⟨⟨4, by unfold infoIs; kernel_rfl⟩, by kernel_rfl⟩, show (Try.prog).underlying 21 = some (.int .i32) from by kernel_rfl⟩
theorem tiok22 : TIok Try.prog 22 (.slc 10 96 (.agg [.agg [.v (.int .i64 0), .v (.int .u16 0), .v (.int .u64 0)], .agg [.v (.int .i64 0), .v (.int .u16 0), .v (.int .u64 0)], .v (.int .u16 0), .v (.int .i64 0), .v (.slice none 0 0), .v (.int .i64 0)])) := ⟨fun _ => ⟨⟨24, by unfold infoIs; kernel_rfl⟩, by kernel_rfl⟩, ⟨41, by kernel_rfl, by unfold infoIs; kernel_rfl, by kernel_rfl, by kernel_rfl, fun h => by cases h⟩⟩
theorem tiok23 : TIok Try.prog 23 (.int .u16) := ⟨fun _ => ⟨⟨2, by unfold infoIs; kernel_rfl⟩, by kernel_rfl⟩, show (Try.prog).underlying 23 = some (.int .u16) from by kernel_rfl⟩
theorem tiok24 : TIok Try.prog 24 (.int .u16) := ⟨fun _ => ⟨⟨2, by unfold infoIs; kernel_rfl⟩, by kernel_rfl⟩, show (Try.prog).underlying 24 = some (.int .u16) from by kernel_rfl⟩
theorem tiok25 : TIok Try.prog 25 (.int .u64) := ⟨fun _ => ⟨⟨8, by unfold infoIs; kernel_rfl⟩, by kernel_rfl⟩, show (Try.prog).underlying 25 = some (.int .u64) from by kernel_rfl⟩
theorem tiok26 : TIok Try.prog 26 (.int .u64) := ⟨fun _ => ⟨⟨8, by unfold infoIs; kernel_rfl⟩, by kernel_rfl⟩, show (Try.prog).underlying 26 = some (.int .u64) from by kernel_rfl⟩
theorem tiok27 : TIok Try.prog 27 (.str [(0, 1), (1, 1), (2, 1)] [3, 24, 26] (.agg [.v (.int .i64 0), .v (.int .u16 0), .v (.int .u64 0)])) := ⟨fun _ => ⟨⟨24, by unfold infoIs; kernel_rfl⟩, by kernel_rfl⟩, ⟨by kernel_rfl, ⟨_, rfl, by kernel_rfl⟩, fun _ => ⟨by kernel_rfl, by kernel_rfl, by kernel_rfl⟩⟩⟩
theorem tiok28 : TIok Try.prog 28 (.str [(0, 1), (1, 1), (2, 1)] [3, 24, 26] (.agg [.v (.int .i64 0), .v (.int .u16 0), .v (.int .u64 0)])) := ⟨fun _ => ⟨⟨24, by unfold infoIs; kernel_rfl⟩, by kernel_rfl⟩, ⟨by kernel_rfl, ⟨_, rfl, by kernel_rfl⟩, fun _ => ⟨by kernel_rfl, by kernel_rfl, by kernel_rfl⟩⟩⟩
theorem tiok29 : TIok Try.prog 29 (.slc 1 1 (.v (.int .u8 0))) := ⟨fun _ => ⟨⟨24, by unfold infoIs; kernel_rfl⟩, by kernel_rfl⟩, ⟨5, by kernel_rfl, by unfold infoIs; kernel_rfl, by kernel_rfl, by kernel_rfl, fun _ => by kernel_rfl⟩⟩
theorem tiok30 : TIok Try.prog 30 (.str [(0, 1), (1, 1), (2, 1), (3, 1)] [3, 23, 3, 29] (.agg [.v (.int .i64 0), .v (.int .u16 0), .v (.int .i64 0), .v (.slice none 0 0)])) := ⟨fun _ => ⟨⟨48, by unfold infoIs; kernel_rfl⟩, by kernel_rfl⟩, ⟨by kernel_rfl, ⟨_, rfl, by kernel_rfl⟩, fun _ => ⟨by kernel_rfl, by kernel_rfl, by kernel_rfl⟩⟩⟩
theorem tiok31 : TIok Try.prog 31 (.str [(0, 1), (1, 1), (2, 1), (3, 1)] [3, 23, 3, 29] (.agg [.v (.int .i64 0), .v (.int .u16 0), .v (.int .i64 0), .v (.slice none 0 0)])) := ⟨fun _ => ⟨⟨48, by unfold infoIs; kernel_rfl⟩, by kernel_rfl⟩, ⟨by kernel_rfl, ⟨_, rfl, by kernel_rfl⟩, fun _ => ⟨by kernel_rfl, by kernel_rfl, by kernel_rfl⟩⟩⟩
theorem tiok32 : TIok Try.prog 32 (.slc 1 8 (.v (.int .i64 0))) := ⟨fun _ => ⟨⟨24, by unfold infoIs; kernel_rfl⟩, by kernel_rfl⟩, ⟨3, by kernel_rfl, by unfold infoIs; kernel_rfl, by kernel_rfl, by kernel_rfl, fun h => by cases h⟩⟩
theorem tiok37 : TIok Try.prog 37 (.slc 4 48 (.agg [.v (.int .i64 0), .v (.int .u16 0), .v (.int .i64 0), .v (.slice none 0 0)])) := ⟨fun _ => ⟨⟨24, by unfold infoIs; kernel_rfl⟩, by kernel_rfl⟩, ⟨31, by kernel_rfl, by unfold infoIs; kernel_rfl, by kernel_rfl, by kernel_rfl, fun h => by cases h⟩⟩
theorem tiok40 : TIok Try.prog 40 (.str [(0, 3), (3, 3), (6, 1), (7, 1), (8, 1), (9, 1)] [28, 28, 23, 3, 37, 3] (.agg [.agg [.v (.int .i64 0), .v (.int .u16 0), .v (.int .u64 0)], .agg [.v (.int .i64 0), .v (.int .u16 0), .v (.int .u64 0)], .v (.int .u16 0), .v (.int .i64 0), .v (.slice none 0 0), .v (.int .i64 0)])) := ⟨fun _ => ⟨⟨96, by unfold infoIs; kernel_rfl⟩, by kernel_rfl⟩, ⟨by kernel_rfl, ⟨_, rfl, by kernel_rfl⟩, fun _ => ⟨by kernel_rfl, by kernel_rfl, by kernel_rfl⟩⟩⟩
theorem tiok41 : TIok Try.prog 41 (.str [(0, 3), (3, 3), (6, 1), (7, 1), (8, 1), (9, 1)] [28, 28, 23, 3, 37, 3] (.agg [.agg [.v (.int .i64 0), .v (.int .u16 0), .v (.int .u64 0)], .agg [.v (.int .i64 0), .v (.int .u16 0), .v (.int .u64 0)], .v (.int .u16 0), .v (.int .i64 0), .v (.slice none 0 0), .v (.int .i64 0)])) := ⟨fun _ => ⟨⟨96, by unfold infoIs; kernel_rfl⟩, by kernel_rfl⟩, ⟨by kernel_rfl, ⟨_, rfl, by kernel_rfl⟩, fun _ => ⟨by kernel_rfl, by kernel_rfl, by kernel_rfl⟩⟩⟩
theorem tiok49 : TIok Try.prog 49 (.slc 1 24 (.v (.slice none 0 0))) := ⟨fun _ => ⟨⟨24, by unfold infoIs; kernel_rfl⟩, by kernel_rfl⟩, ⟨37, by kernel_rfl, by unfold infoIs; kernel_rfl, by kernel_rfl, by kernel_rfl, fun h => by cases h⟩⟩
theorem tiok50 : TIok Try.prog 50 (.int .i64) := ⟨fun _ => ⟨⟨8, by unfold infoIs; kernel_rfl⟩, by kernel_rfl⟩, show (Try.prog).underlying 50 = some (.int .i64) from by kernel_rfl⟩
theorem tiok59 : TIok Try.prog 59 (.slc 1 1 (.v (.bool false))) := ⟨fun _ => ⟨⟨24, by unfold infoIs; kernel_rfl⟩, by kernel_rfl⟩, ⟨4, by kernel_rfl, by unfold infoIs; kernel_rfl, by kernel_rfl, by kernel_rfl, fun h => by cases h⟩⟩
theorem tiok65 : TIok Try.prog 65 (.str [(0, 1), (1, 1)] [32, 3] (.agg [.v (.slice none 0 0), .v (.int .i64 0)])) := ⟨fun _ => ⟨⟨32, by unfold infoIs; kernel_rfl⟩, by kernel_rfl⟩, ⟨by kernel_rfl, ⟨_, rfl, by kernel_rfl⟩, fun _ => ⟨by kernel_rfl, by kernel_rfl, by kernel_rfl⟩⟩⟩
theorem tiok66 : TIok Try.prog 66 (.str [(0, 1), (1, 1)] [32, 3] (.agg [.v (.slice none 0 0), .v (.int .i64 0)])) := ⟨fun _ => ⟨⟨32, by unfold infoIs; kernel_rfl⟩, by kernel_rfl⟩, ⟨by kernel_rfl, ⟨_, rfl, by kernel_rfl⟩, fun _ => ⟨by kernel_rfl, by kernel_rfl, by kernel_rfl⟩⟩⟩
theorem tiok86 : TIok Try.prog 86 (.arr 5 1 5 (.ba 5 [0, 0, 0, 0, 0])) := ⟨fun _ => ⟨⟨5, by unfold infoIs; kernel_rfl⟩, by kernel_rfl⟩, ⟨by kernel_rfl, ⟨1, toVal (.v (.int .u8 0)), by unfold infoIs; kernel_rfl⟩, by kernel_rfl⟩⟩
theorem tiok100 : TIok Try.prog 100 (.int .u32) := ⟨fun _ => ⟨⟨4, by unfold infoIs; kernel_rfl⟩, by kernel_rfl⟩, show (Try.prog).underlying 100 = some (.int .u32) from by kernel_rfl⟩
theorem ttok : TTok Try.prog tt := lkT_ok (l := tbl) ⟨tiok2, tiok3, tiok4, tiok5, tiok9, tiok12, tiok21, tiok22, tiok23, tiok24, tiok25, tiok26, tiok27, tiok28, tiok29, tiok30, tiok31, tiok32, tiok37, tiok40, tiok41, tiok49, tiok50, tiok59, tiok65, tiok66, tiok86, tiok100, trivial⟩
theorem mixed : (Try.prog).follows .mixedOrders = true := by kernel_rfl
end Go.Fw
