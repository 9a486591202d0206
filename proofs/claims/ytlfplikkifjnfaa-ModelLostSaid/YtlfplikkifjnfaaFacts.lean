/- Facts on this program's types that the walks use. -/
import Derived.Test.YtlfplikkifjnfaaRows
import Derived.Test.YtlfplikkifjnfaaBase
import Derived.Test.YtlfplikkifjnfaaLex
namespace Go.Proofs.Ytlfplikkifjnfaa
open Go.RowKit
theorem Try.info8 : (Try.prog.info? 5).map (fun i => (i.zero, i.size, i.bytes)) = some (some (.int .u8 0), 1, 1) := by kernel_rfl
end Go.Proofs.Ytlfplikkifjnfaa
