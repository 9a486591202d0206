/- sync.Mutex in this translation: the kit's contracts, named for it. -/
import Derived.Test.YtopmdbmnlflpgaaDoorFacts
import Derived.Conc.MuLone
import Derived.KernelRfl
namespace Go.Proofs.YtopmdbmnlflpgaaDoor
abbrev MUL : Go.Conc.Locks.MuLink := { lock := 77, unlock := 78, ilock := 97, iunlock := 98, lockSlow := 105, unlockSlow := 108, disable := 101, enable := 103, acquire := 104, relMerge := 106, cas32 := 102, add32 := 107, tMutex := 129, tIMutex := 127, tPMutex := 152, tPIMutex := 155, tPI32 := 157, tUP := 159, tNoCopy := 125, tU32 := 22 }
theorem muLib : Go.Conc.Locks.MuLib Tryd.prog MUL :=
  ⟨Tryd.func77, Tryd.func78, Tryd.func97, Tryd.func98, Tryd.func101, Tryd.func103, Tryd.func104, Tryd.func106, Tryd.func102, Tryd.func107, Tryd.underlying127, Tryd.runUnderlying127, Tryd.sizeOf127, Tryd.isAgg127, Tryd.zeroValue127, Tryd.underlying129, Tryd.runUnderlying129, Tryd.sizeOf129, Tryd.isAgg129, Tryd.zeroValue129, Tryd.underlying152, Tryd.runUnderlying152, Tryd.sizeOf152, Tryd.isAgg152, Tryd.zeroValue152, Tryd.underlying155, Tryd.runUnderlying155, Tryd.sizeOf155, Tryd.isAgg155, Tryd.zeroValue155, Tryd.underlying157, Tryd.runUnderlying157, Tryd.sizeOf157, Tryd.isAgg157, Tryd.zeroValue157, Tryd.underlying159, Tryd.runUnderlying159, Tryd.sizeOf159, Tryd.isAgg159, Tryd.zeroValue159, Tryd.underlying125, Tryd.runUnderlying125, Tryd.sizeOf125, Tryd.isAgg125, Tryd.zeroValue125, Tryd.underlying21, Tryd.runUnderlying21, Tryd.sizeOf21, Tryd.isAgg21, Tryd.zeroValue21, (by kernel_rfl)⟩
end Go.Proofs.YtopmdbmnlflpgaaDoor
