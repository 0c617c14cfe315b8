/- The types of this seat, as the executor wants them. -/
import Derived.Test.YtkmcmhohelgjfaaFm5
import Derived.Test.YtkmcmhohelgjfaaProg
namespace Go.Fw
open Go.Proofs
def tbl : List (Nat × TI) := [
  (2, .int .i64),
  (3, .int .i64),
  (4, .bool),
  (5, .int .u8),
  (9, .sc (.v (.string ⟨#[]⟩))),
  (12, .int .u64),
  (21, .int .i32),
  (22, .slc 1 8 (.v (.int .i64 0))),
  (27, .slc 1 24 (.v (.slice none 0 0))),
  (43, .str [(0, 1), (1, 1)] [22, 3] (.agg [.v (.slice none 0 0), .v (.int .i64 0)])),
  (44, .str [(0, 1), (1, 1)] [22, 3] (.agg [.v (.slice none 0 0), .v (.int .i64 0)])),
  (45, .slc 1 1 (.v (.bool false))),
  (58, .int .u32)]
def tt (t : Nat) : TI := lkT tbl t
theorem tiok2 : TIok Try.prog 2 (.int .i64) := ⟨fun _ => ⟨⟨8, by unfold infoIs; kernel_rfl⟩, by kernel_rfl⟩, show (Try.prog).underlying 2 = some (.int .i64) from by kernel_rfl⟩
theorem tiok3 : TIok Try.prog 3 (.int .i64) := ⟨fun _ => ⟨⟨8, by unfold infoIs; kernel_rfl⟩, by kernel_rfl⟩, show (Try.prog).underlying 3 = some (.int .i64) from by kernel_rfl⟩
theorem tiok4 : TIok Try.prog 4 (.bool) := ⟨fun _ => ⟨⟨1, by unfold infoIs; kernel_rfl⟩, by kernel_rfl⟩, show (Try.prog).underlying 4 = some .bool from by kernel_rfl⟩
theorem tiok5 : TIok Try.prog 5 (.int .u8) := ⟨fun _ => ⟨⟨1, by unfold infoIs; kernel_rfl⟩, by kernel_rfl⟩, show (Try.prog).underlying 5 = some (.int .u8) from by kernel_rfl⟩
theorem tiok9 : TIok Try.prog 9 (.sc (.v (.string ⟨#[]⟩))) := ⟨fun _ => ⟨⟨16, by unfold infoIs; kernel_rfl⟩, by kernel_rfl⟩, ⟨rfl, ⟨.string, by kernel_rfl, rfl⟩, fun _ _ => by kernel_rfl⟩⟩
theorem tiok12 : TIok Try.prog 12 (.int .u64) := ⟨fun _ => ⟨⟨8, by unfold infoIs; kernel_rfl⟩, by kernel_rfl⟩, show (Try.prog).underlying 12 = some (.int .u64) from by kernel_rfl⟩
theorem tiok21 : TIok Try.prog 21 (.int .i32) := ⟨fun _ => ⟨⟨4, by unfold infoIs; kernel_rfl⟩, by kernel_rfl⟩, show (Try.prog).underlying 21 = some (.int .i32) from by kernel_rfl⟩
theorem tiok22 : TIok Try.prog 22 (.slc 1 8 (.v (.int .i64 0))) := ⟨fun _ => ⟨⟨24, by unfold infoIs; kernel_rfl⟩, by kernel_rfl⟩, ⟨3, by kernel_rfl, by unfold infoIs; kernel_rfl, by kernel_rfl, by kernel_rfl, fun h => by cases h⟩⟩
theorem tiok27 : TIok Try.prog 27 (.slc 1 24 (.v (.slice none 0 0))) := ⟨fun _ => ⟨⟨24, by unfold infoIs; kernel_rfl⟩, by kernel_rfl⟩, ⟨22, by kernel_rfl, by unfold infoIs; kernel_rfl, by kernel_rfl, by kernel_rfl, fun h => by cases h⟩⟩
theorem tiok43 : TIok Try.prog 43 (.str [(0, 1), (1, 1)] [22, 3] (.agg [.v (.slice none 0 0), .v (.int .i64 0)])) := ⟨fun _ => ⟨⟨32, by unfold infoIs; kernel_rfl⟩, by kernel_rfl⟩, ⟨by kernel_rfl, ⟨_, rfl, by kernel_rfl⟩, fun _ => ⟨by kernel_rfl, by kernel_rfl, by kernel_rfl⟩⟩⟩
theorem tiok44 : TIok Try.prog 44 (.str [(0, 1), (1, 1)] [22, 3] (.agg [.v (.slice none 0 0), .v (.int .i64 0)])) := ⟨fun _ => ⟨⟨32, by unfold infoIs; kernel_rfl⟩, by kernel_rfl⟩, ⟨by kernel_rfl, ⟨_, rfl, by kernel_rfl⟩, fun _ => ⟨by kernel_rfl, by kernel_rfl, by kernel_rfl⟩⟩⟩
theorem tiok45 : TIok Try.prog 45 (.slc 1 1 (.v (.bool false))) := ⟨fun _ => ⟨⟨24, by unfold infoIs; kernel_rfl⟩, by kernel_rfl⟩, ⟨4, by kernel_rfl, by unfold infoIs; kernel_rfl, by kernel_rfl, by kernel_rfl, fun h => by cases h⟩⟩
theorem tiok58 : TIok Try.prog 58 (.int .u32) := ⟨fun _ => ⟨⟨4, by unfold infoIs; kernel_rfl⟩, by kernel_rfl⟩, show (Try.prog).underlying 58 = some (.int .u32) from by kernel_rfl⟩
theorem ttok : TTok Try.prog tt := lkT_ok (l := tbl) ⟨tiok2, tiok3, tiok4, tiok5, tiok9, tiok12, tiok21, tiok22, tiok27, tiok43, tiok44, tiok45, tiok58, trivial⟩
theorem mixed : (Try.prog).follows .mixedOrders = true := by kernel_rfl
end Go.Fw
