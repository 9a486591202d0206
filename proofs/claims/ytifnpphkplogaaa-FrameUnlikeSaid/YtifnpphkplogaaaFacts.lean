/- Facts on this program's types that the walks use. -/
import Derived.Test.YtifnpphkplogaaaRows
import Derived.Test.YtifnpphkplogaaaBase
import Derived.Test.YtifnpphkplogaaaLex
namespace Go.Proofs.Ytifnpphkplogaaa
open Go.RowKit
theorem Try.info8 : (Try.prog.info? 5).map (fun i => (i.zero, i.size, i.bytes)) = some (some (.int .u8 0), 1, 1) := by kernel_rfl
end Go.Proofs.Ytifnpphkplogaaa
