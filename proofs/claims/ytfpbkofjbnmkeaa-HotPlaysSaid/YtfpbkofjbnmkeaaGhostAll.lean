/- What this text proves: the contract of (*ghost.List).All. Conditions: the theorem's own. -/
import Derived.Test.YtfpbkofjbnmkeaaGhost
import Derived.Deep.LoopGhost
import Derived.Maps.AppendAt
namespace Go.Proofs.Ytfpbkofjbnmkeaa
open Go Go.RowKit
open Go.Proofs

theorem infoU32 : (Try.prog.info? 23).map (fun i => (i.zero, i.size, i.bytes)) = some (some (.int .u32 0), 1, 4) := by kernel_rfl

theorem infoLink : (Try.prog.info? 75).map (fun i => (i.zero, i.size, i.bytes)) = some (some (.agg #[.int .u32 0, .pointer none, .pointer none]), 3, 24) := by kernel_rfl

end Go.Proofs.Ytfpbkofjbnmkeaa
