/- Contracts of text.Points and the reference's Points. -/
import Derived.Test.YtabemneoobbnaaaGreatDoorRows
import Derived.Test.YtabemneoobbnaaaGreatDoorPt
namespace Go.Proofs.YtabemneoobbnaaaGreatDoor
open Go.RowKit

theorem info_int : (Tryz.prog.info? 3).map (fun i => (i.zero, i.size, i.bytes)) = some (some (.int .i64 0), 1, 8) := by kernel_rfl

end Go.Proofs.YtabemneoobbnaaaGreatDoor
