/- Facts on this program's types that the walks use. -/
import Derived.Test.YtopmdbmnlflpgaaDoorRows
import Derived.Test.YtopmdbmnlflpgaaDoorBase
import Derived.Test.YtopmdbmnlflpgaaDoorLex
namespace Go.Proofs.YtopmdbmnlflpgaaDoor
open Go.RowKit
theorem Tryd.info8 : (Tryd.prog.info? 5).map (fun i => (i.zero, i.size, i.bytes)) = some (some (.int .u8 0), 1, 1) := by kernel_rfl
end Go.Proofs.YtopmdbmnlflpgaaDoor
