/-
  NARROWER THAN 'FOR EVERY INPUT', by the rows' own cells (each row's printed sentence says how): ShaBlocks: laid · ShaSums: laid · ShaWhole: laid · ShaFolds: laid · MacExpands: laid · MacLonger: laid · MacZeros: laid · MacSums: laid · ShaMeters: laid · ShaParts: laid · TrailGoes: laid · TrailCut: laid · DrawsPlays: laid · DrawsAgain: laid · MacDerives: laid · TrailPast: laid.
  DERIVED. THE GIVEN ROWS OF THIS SEAT. 16 by the template 'for every input the law returns true; each argument reads behind the call as it read before'; 0 by the template 'total and deterministic' (their statements: YtopmdbmnlflpgaaDoorTotals.lean).
  GIVEN WITH THE SEED: the statements are not yours to turn. If you find one false, say at which input.
  Laid BY PROGRAM, IN A SANDBOX (cutbox-rows.mjs): the forced cells as the released guide's own fill.sh prints them over the translation 6074fc49deaa68c7… (all of the seat's roots in one cut). By AI agents, Wed Nov 11 2026. No macro, syntax, notation, axiom, sorry.
-/
import Derived.Test.YtopmdbmnlflpgaaDoorChecked
import GoSem.Claim
import GoSem.ClaimJoined
import GoSem.ClaimMapViews
import Derived.JoinedTies
import Derived.KernelRfl
namespace Go.Proofs.YtopmdbmnlflpgaaDoor
/- THE CELL 'sum', in the pinned program and in every row, IS THE sha256 OF THE DUMP (.gsa) THAT YtopmdbmnlflpgaaDoorProg.lean LOADS. Nothing in Lean hashes anything: it is a label: what it is worth is what the hold of that sum in a sandbox is worth. -/
noncomputable def Tryd.pinned : Pinned := { name := "ytopmdbmnlflpgaadoor", sum := "6074fc49deaa68c71fa04f45e24097793078a1505d5d464b6101c8bf0afb7030", checked := Tryd.checked }
namespace Rows
def none {H : Type} : Left H := { results := [], args := [] }

/- WHAT THE LISTED PACKAGE-LEVEL VARIABLES READ AS WHEN THE CALL BEGINS. Each datum BY PROGRAM (the guide's laid-datum.mjs) off the statement by which the dump's own 'gosem.cut.vars' lays the variable. In a bare row this is a premise. The card (YtopmdbmnlflpgaaDoorCards.lean) ties it to the program's text. -/
def laid_cablegram_sha_rounds {H : Type} : DataW H := .agg [.lit (.int .u32 1116352408), .lit (.int .u32 1899447441), .lit (.int .u32 3049323471), .lit (.int .u32 3921009573), .lit (.int .u32 961987163), .lit (.int .u32 1508970993), .lit (.int .u32 2453635748), .lit (.int .u32 2870763221), .lit (.int .u32 3624381080), .lit (.int .u32 310598401), .lit (.int .u32 607225278), .lit (.int .u32 1426881987), .lit (.int .u32 1925078388), .lit (.int .u32 2162078206), .lit (.int .u32 2614888103), .lit (.int .u32 3248222580), .lit (.int .u32 3835390401), .lit (.int .u32 4022224774), .lit (.int .u32 264347078), .lit (.int .u32 604807628), .lit (.int .u32 770255983), .lit (.int .u32 1249150122), .lit (.int .u32 1555081692), .lit (.int .u32 1996064986), .lit (.int .u32 2554220882), .lit (.int .u32 2821834349), .lit (.int .u32 2952996808), .lit (.int .u32 3210313671), .lit (.int .u32 3336571891), .lit (.int .u32 3584528711), .lit (.int .u32 113926993), .lit (.int .u32 338241895), .lit (.int .u32 666307205), .lit (.int .u32 773529912), .lit (.int .u32 1294757372), .lit (.int .u32 1396182291), .lit (.int .u32 1695183700), .lit (.int .u32 1986661051), .lit (.int .u32 2177026350), .lit (.int .u32 2456956037), .lit (.int .u32 2730485921), .lit (.int .u32 2820302411), .lit (.int .u32 3259730800), .lit (.int .u32 3345764771), .lit (.int .u32 3516065817), .lit (.int .u32 3600352804), .lit (.int .u32 4094571909), .lit (.int .u32 275423344), .lit (.int .u32 430227734), .lit (.int .u32 506948616), .lit (.int .u32 659060556), .lit (.int .u32 883997877), .lit (.int .u32 958139571), .lit (.int .u32 1322822218), .lit (.int .u32 1537002063), .lit (.int .u32 1747873779), .lit (.int .u32 1955562222), .lit (.int .u32 2024104815), .lit (.int .u32 2227730452), .lit (.int .u32 2361852424), .lit (.int .u32 2428436474), .lit (.int .u32 2756734187), .lit (.int .u32 3204031479), .lit (.int .u32 3329325298)]
def laid_cablegram_sha_start {H : Type} : DataW H := .agg [.lit (.int .u32 1779033703), .lit (.int .u32 3144134277), .lit (.int .u32 1013904242), .lit (.int .u32 2773480762), .lit (.int .u32 1359893119), .lit (.int .u32 2600822924), .lit (.int .u32 528734635), .lit (.int .u32 1541459225)]

/-- 'cablegramlaw02.ShaBlocks': WHATEVER THE INPUT: true; the input reads as it did. -/
def shaBlocksSpec : ChangeSpec := { name := "shaBlocks", fn := fun _ => fun
  | [d1, d2, d3] => { results := [.lit (.bool true)], args := [d1, d2, d3] }
  | _ => none }
def shaBlocksRow : OpenClaim := { program := "ytopmdbmnlflpgaadoor", sum := "6074fc49deaa68c71fa04f45e24097793078a1505d5d464b6101c8bf0afb7030", func := "cablegram/cablegramlaw02.ShaBlocks", spec := "shaBlocks", inPlace := ["sync/atomic.AddInt64", "(*internal/sync.Mutex).Lock", "internal/race.Disable", "sync/atomic.CompareAndSwapInt32", "internal/race.Enable", "internal/race.Acquire", "(*internal/sync.Mutex).lockSlow", "internal/sync.runtime_canSpin", "internal/sync.runtime_doSpin", "internal/sync.throw", "internal/sync.runtime_nanotime", "internal/sync.runtime_SemacquireMutex", "sync/atomic.AddInt32", "(*internal/sync.Mutex).Unlock", "internal/race.ReleaseMerge", "(*internal/sync.Mutex).unlockSlow", "internal/sync.fatal", "internal/sync.runtime_Semrelease"], named := ["cablegram/sha.start", "cablegram/sha.rounds"], plainKeys := false, apart := false, laid := [("cablegram/sha.rounds", laid_cablegram_sha_rounds), ("cablegram/sha.start", laid_cablegram_sha_start)] }
def ShaBlocksSaid : Prop := shaBlocksRow.holds Tryd.pinned (OpenSpec.ofChange shaBlocksSpec)

/-- ITS FALSE NEIGHBOUR: 'it returns false'. Refute it at one input. -/
def shaBlocksWrong : ChangeSpec := { name := "shaBlocks", fn := fun _ => fun
  | [d1, d2, d3] => { results := [.lit (.bool false)], args := [d1, d2, d3] }
  | _ => none }
def ShaBlocksWrongFalsely : Prop := shaBlocksRow.holds Tryd.pinned (OpenSpec.ofChange shaBlocksWrong)

/-- 'cablegramlaw02.ShaSums': WHATEVER THE INPUT: true; the input reads as it did. -/
def shaSumsSpec : ChangeSpec := { name := "shaSums", fn := fun _ => fun
  | [d] => { results := [.lit (.bool true)], args := [d] }
  | _ => none }
def shaSumsRow : OpenClaim := { program := "ytopmdbmnlflpgaadoor", sum := "6074fc49deaa68c71fa04f45e24097793078a1505d5d464b6101c8bf0afb7030", func := "cablegram/cablegramlaw02.ShaSums", spec := "shaSums", inPlace := ["sync/atomic.AddInt64", "(*internal/sync.Mutex).Lock", "internal/race.Disable", "sync/atomic.CompareAndSwapInt32", "internal/race.Enable", "internal/race.Acquire", "(*internal/sync.Mutex).lockSlow", "internal/sync.runtime_canSpin", "internal/sync.runtime_doSpin", "internal/sync.throw", "internal/sync.runtime_nanotime", "internal/sync.runtime_SemacquireMutex", "sync/atomic.AddInt32", "(*internal/sync.Mutex).Unlock", "internal/race.ReleaseMerge", "(*internal/sync.Mutex).unlockSlow", "internal/sync.fatal", "internal/sync.runtime_Semrelease"], named := ["cablegram/sha.start", "cablegram/sha.rounds"], plainKeys := false, apart := false, laid := [("cablegram/sha.rounds", laid_cablegram_sha_rounds), ("cablegram/sha.start", laid_cablegram_sha_start)] }
def ShaSumsSaid : Prop := shaSumsRow.holds Tryd.pinned (OpenSpec.ofChange shaSumsSpec)

/-- ITS FALSE NEIGHBOUR: 'it returns false'. Refute it at one input. -/
def shaSumsWrong : ChangeSpec := { name := "shaSums", fn := fun _ => fun
  | [d] => { results := [.lit (.bool false)], args := [d] }
  | _ => none }
def ShaSumsWrongFalsely : Prop := shaSumsRow.holds Tryd.pinned (OpenSpec.ofChange shaSumsWrong)

/-- 'cablegramlaw02.ShaWhole': WHATEVER THE INPUT: true; the input reads as it did. -/
def shaWholeSpec : ChangeSpec := { name := "shaWhole", fn := fun _ => fun
  | [d] => { results := [.lit (.bool true)], args := [d] }
  | _ => none }
def shaWholeRow : OpenClaim := { program := "ytopmdbmnlflpgaadoor", sum := "6074fc49deaa68c71fa04f45e24097793078a1505d5d464b6101c8bf0afb7030", func := "cablegram/cablegramlaw02.ShaWhole", spec := "shaWhole", inPlace := ["sync/atomic.AddInt64", "(*internal/sync.Mutex).Lock", "internal/race.Disable", "sync/atomic.CompareAndSwapInt32", "internal/race.Enable", "internal/race.Acquire", "(*internal/sync.Mutex).lockSlow", "internal/sync.runtime_canSpin", "internal/sync.runtime_doSpin", "internal/sync.throw", "internal/sync.runtime_nanotime", "internal/sync.runtime_SemacquireMutex", "sync/atomic.AddInt32", "(*internal/sync.Mutex).Unlock", "internal/race.ReleaseMerge", "(*internal/sync.Mutex).unlockSlow", "internal/sync.fatal", "internal/sync.runtime_Semrelease"], named := ["cablegram/sha.start", "cablegram/sha.rounds"], plainKeys := false, apart := false, laid := [("cablegram/sha.rounds", laid_cablegram_sha_rounds), ("cablegram/sha.start", laid_cablegram_sha_start)] }
def ShaWholeSaid : Prop := shaWholeRow.holds Tryd.pinned (OpenSpec.ofChange shaWholeSpec)

/-- ITS FALSE NEIGHBOUR: 'it returns false'. Refute it at one input. -/
def shaWholeWrong : ChangeSpec := { name := "shaWhole", fn := fun _ => fun
  | [d] => { results := [.lit (.bool false)], args := [d] }
  | _ => none }
def ShaWholeWrongFalsely : Prop := shaWholeRow.holds Tryd.pinned (OpenSpec.ofChange shaWholeWrong)

/-- 'cablegramlaw02.ShaFolds': WHATEVER THE INPUT: true; the input reads as it did. -/
def shaFoldsSpec : ChangeSpec := { name := "shaFolds", fn := fun _ => fun
  | [d1, d2] => { results := [.lit (.bool true)], args := [d1, d2] }
  | _ => none }
def shaFoldsRow : OpenClaim := { program := "ytopmdbmnlflpgaadoor", sum := "6074fc49deaa68c71fa04f45e24097793078a1505d5d464b6101c8bf0afb7030", func := "cablegram/cablegramlaw02.ShaFolds", spec := "shaFolds", inPlace := ["sync/atomic.AddInt64", "(*internal/sync.Mutex).Lock", "internal/race.Disable", "sync/atomic.CompareAndSwapInt32", "internal/race.Enable", "internal/race.Acquire", "(*internal/sync.Mutex).lockSlow", "internal/sync.runtime_canSpin", "internal/sync.runtime_doSpin", "internal/sync.throw", "internal/sync.runtime_nanotime", "internal/sync.runtime_SemacquireMutex", "sync/atomic.AddInt32", "(*internal/sync.Mutex).Unlock", "internal/race.ReleaseMerge", "(*internal/sync.Mutex).unlockSlow", "internal/sync.fatal", "internal/sync.runtime_Semrelease"], named := ["cablegram/sha.start", "cablegram/sha.rounds"], plainKeys := false, apart := false, laid := [("cablegram/sha.rounds", laid_cablegram_sha_rounds), ("cablegram/sha.start", laid_cablegram_sha_start)] }
def ShaFoldsSaid : Prop := shaFoldsRow.holds Tryd.pinned (OpenSpec.ofChange shaFoldsSpec)

/-- ITS FALSE NEIGHBOUR: 'it returns false'. Refute it at one input. -/
def shaFoldsWrong : ChangeSpec := { name := "shaFolds", fn := fun _ => fun
  | [d1, d2] => { results := [.lit (.bool false)], args := [d1, d2] }
  | _ => none }
def ShaFoldsWrongFalsely : Prop := shaFoldsRow.holds Tryd.pinned (OpenSpec.ofChange shaFoldsWrong)

/-- 'cablegramlaw03.MacExpands': WHATEVER THE INPUT: true; the input reads as it did. -/
def macExpandsSpec : ChangeSpec := { name := "macExpands", fn := fun _ => fun
  | [d1, d2, d3] => { results := [.lit (.bool true)], args := [d1, d2, d3] }
  | _ => none }
def macExpandsRow : OpenClaim := { program := "ytopmdbmnlflpgaadoor", sum := "6074fc49deaa68c71fa04f45e24097793078a1505d5d464b6101c8bf0afb7030", func := "cablegram/cablegramlaw03.MacExpands", spec := "macExpands", inPlace := ["sync/atomic.AddInt64", "(*internal/sync.Mutex).Lock", "internal/race.Disable", "sync/atomic.CompareAndSwapInt32", "internal/race.Enable", "internal/race.Acquire", "(*internal/sync.Mutex).lockSlow", "internal/sync.runtime_canSpin", "internal/sync.runtime_doSpin", "internal/sync.throw", "internal/sync.runtime_nanotime", "internal/sync.runtime_SemacquireMutex", "sync/atomic.AddInt32", "(*internal/sync.Mutex).Unlock", "internal/race.ReleaseMerge", "(*internal/sync.Mutex).unlockSlow", "internal/sync.fatal", "internal/sync.runtime_Semrelease"], unfollowed := true, recurses := true, named := ["cablegram/sha.start", "cablegram/sha.rounds"], plainKeys := false, apart := false, laid := [("cablegram/sha.rounds", laid_cablegram_sha_rounds), ("cablegram/sha.start", laid_cablegram_sha_start)] }
def MacExpandsSaid : Prop := macExpandsRow.holds Tryd.pinned (OpenSpec.ofChange macExpandsSpec)

/-- ITS FALSE NEIGHBOUR: 'it returns false'. Refute it at one input. -/
def macExpandsWrong : ChangeSpec := { name := "macExpands", fn := fun _ => fun
  | [d1, d2, d3] => { results := [.lit (.bool false)], args := [d1, d2, d3] }
  | _ => none }
def MacExpandsWrongFalsely : Prop := macExpandsRow.holds Tryd.pinned (OpenSpec.ofChange macExpandsWrong)

/-- 'cablegramlaw03.MacLonger': WHATEVER THE INPUT: true; the input reads as it did. -/
def macLongerSpec : ChangeSpec := { name := "macLonger", fn := fun _ => fun
  | [d1, d2, d3, d4] => { results := [.lit (.bool true)], args := [d1, d2, d3, d4] }
  | _ => none }
def macLongerRow : OpenClaim := { program := "ytopmdbmnlflpgaadoor", sum := "6074fc49deaa68c71fa04f45e24097793078a1505d5d464b6101c8bf0afb7030", func := "cablegram/cablegramlaw03.MacLonger", spec := "macLonger", inPlace := ["sync/atomic.AddInt64", "(*internal/sync.Mutex).Lock", "internal/race.Disable", "sync/atomic.CompareAndSwapInt32", "internal/race.Enable", "internal/race.Acquire", "(*internal/sync.Mutex).lockSlow", "internal/sync.runtime_canSpin", "internal/sync.runtime_doSpin", "internal/sync.throw", "internal/sync.runtime_nanotime", "internal/sync.runtime_SemacquireMutex", "sync/atomic.AddInt32", "(*internal/sync.Mutex).Unlock", "internal/race.ReleaseMerge", "(*internal/sync.Mutex).unlockSlow", "internal/sync.fatal", "internal/sync.runtime_Semrelease"], unfollowed := true, recurses := true, named := ["cablegram/sha.start", "cablegram/sha.rounds"], plainKeys := false, apart := false, laid := [("cablegram/sha.rounds", laid_cablegram_sha_rounds), ("cablegram/sha.start", laid_cablegram_sha_start)] }
def MacLongerSaid : Prop := macLongerRow.holds Tryd.pinned (OpenSpec.ofChange macLongerSpec)

/-- ITS FALSE NEIGHBOUR: 'it returns false'. Refute it at one input. -/
def macLongerWrong : ChangeSpec := { name := "macLonger", fn := fun _ => fun
  | [d1, d2, d3, d4] => { results := [.lit (.bool false)], args := [d1, d2, d3, d4] }
  | _ => none }
def MacLongerWrongFalsely : Prop := macLongerRow.holds Tryd.pinned (OpenSpec.ofChange macLongerWrong)

/-- 'cablegramlaw03.MacZeros': WHATEVER THE INPUT: true; the input reads as it did. -/
def macZerosSpec : ChangeSpec := { name := "macZeros", fn := fun _ => fun
  | [d1, d2, d3] => { results := [.lit (.bool true)], args := [d1, d2, d3] }
  | _ => none }
def macZerosRow : OpenClaim := { program := "ytopmdbmnlflpgaadoor", sum := "6074fc49deaa68c71fa04f45e24097793078a1505d5d464b6101c8bf0afb7030", func := "cablegram/cablegramlaw03.MacZeros", spec := "macZeros", inPlace := ["sync/atomic.AddInt64", "(*internal/sync.Mutex).Lock", "internal/race.Disable", "sync/atomic.CompareAndSwapInt32", "internal/race.Enable", "internal/race.Acquire", "(*internal/sync.Mutex).lockSlow", "internal/sync.runtime_canSpin", "internal/sync.runtime_doSpin", "internal/sync.throw", "internal/sync.runtime_nanotime", "internal/sync.runtime_SemacquireMutex", "sync/atomic.AddInt32", "(*internal/sync.Mutex).Unlock", "internal/race.ReleaseMerge", "(*internal/sync.Mutex).unlockSlow", "internal/sync.fatal", "internal/sync.runtime_Semrelease"], unfollowed := true, recurses := true, named := ["cablegram/sha.start", "cablegram/sha.rounds"], plainKeys := false, apart := false, laid := [("cablegram/sha.rounds", laid_cablegram_sha_rounds), ("cablegram/sha.start", laid_cablegram_sha_start)] }
def MacZerosSaid : Prop := macZerosRow.holds Tryd.pinned (OpenSpec.ofChange macZerosSpec)

/-- ITS FALSE NEIGHBOUR: 'it returns false'. Refute it at one input. -/
def macZerosWrong : ChangeSpec := { name := "macZeros", fn := fun _ => fun
  | [d1, d2, d3] => { results := [.lit (.bool false)], args := [d1, d2, d3] }
  | _ => none }
def MacZerosWrongFalsely : Prop := macZerosRow.holds Tryd.pinned (OpenSpec.ofChange macZerosWrong)

/-- 'cablegramlaw03.MacSums': WHATEVER THE INPUT: true; the input reads as it did. -/
def macSumsSpec : ChangeSpec := { name := "macSums", fn := fun _ => fun
  | [d1, d2, d3] => { results := [.lit (.bool true)], args := [d1, d2, d3] }
  | _ => none }
def macSumsRow : OpenClaim := { program := "ytopmdbmnlflpgaadoor", sum := "6074fc49deaa68c71fa04f45e24097793078a1505d5d464b6101c8bf0afb7030", func := "cablegram/cablegramlaw03.MacSums", spec := "macSums", inPlace := ["sync/atomic.AddInt64", "(*internal/sync.Mutex).Lock", "internal/race.Disable", "sync/atomic.CompareAndSwapInt32", "internal/race.Enable", "internal/race.Acquire", "(*internal/sync.Mutex).lockSlow", "internal/sync.runtime_canSpin", "internal/sync.runtime_doSpin", "internal/sync.throw", "internal/sync.runtime_nanotime", "internal/sync.runtime_SemacquireMutex", "sync/atomic.AddInt32", "(*internal/sync.Mutex).Unlock", "internal/race.ReleaseMerge", "(*internal/sync.Mutex).unlockSlow", "internal/sync.fatal", "internal/sync.runtime_Semrelease"], unfollowed := true, recurses := true, named := ["cablegram/sha.start", "cablegram/sha.rounds"], plainKeys := false, apart := false, laid := [("cablegram/sha.rounds", laid_cablegram_sha_rounds), ("cablegram/sha.start", laid_cablegram_sha_start)] }
def MacSumsSaid : Prop := macSumsRow.holds Tryd.pinned (OpenSpec.ofChange macSumsSpec)

/-- ITS FALSE NEIGHBOUR: 'it returns false'. Refute it at one input. -/
def macSumsWrong : ChangeSpec := { name := "macSums", fn := fun _ => fun
  | [d1, d2, d3] => { results := [.lit (.bool false)], args := [d1, d2, d3] }
  | _ => none }
def MacSumsWrongFalsely : Prop := macSumsRow.holds Tryd.pinned (OpenSpec.ofChange macSumsWrong)

/-- 'cablegramlaw02.ShaMeters': WHATEVER THE INPUT: true; the input reads as it did. -/
def shaMetersSpec : ChangeSpec := { name := "shaMeters", fn := fun _ => fun
  | [d1, d2] => { results := [.lit (.bool true)], args := [d1, d2] }
  | _ => none }
def shaMetersRow : OpenClaim := { program := "ytopmdbmnlflpgaadoor", sum := "6074fc49deaa68c71fa04f45e24097793078a1505d5d464b6101c8bf0afb7030", func := "cablegram/cablegramlaw02.ShaMeters", spec := "shaMeters", inPlace := ["sync/atomic.AddInt64", "(*internal/sync.Mutex).Lock", "internal/race.Disable", "sync/atomic.CompareAndSwapInt32", "internal/race.Enable", "internal/race.Acquire", "(*internal/sync.Mutex).lockSlow", "internal/sync.runtime_canSpin", "internal/sync.runtime_doSpin", "internal/sync.throw", "internal/sync.runtime_nanotime", "internal/sync.runtime_SemacquireMutex", "sync/atomic.AddInt32", "(*internal/sync.Mutex).Unlock", "internal/race.ReleaseMerge", "(*internal/sync.Mutex).unlockSlow", "internal/sync.fatal", "internal/sync.runtime_Semrelease", "sync/atomic.LoadInt64"], named := ["cablegram/sha.start", "cablegram/sha.rounds"], plainKeys := false, apart := false, laid := [("cablegram/sha.rounds", laid_cablegram_sha_rounds), ("cablegram/sha.start", laid_cablegram_sha_start)] }
def ShaMetersSaid : Prop := shaMetersRow.holds Tryd.pinned (OpenSpec.ofChange shaMetersSpec)

/-- ITS FALSE NEIGHBOUR: 'it returns false'. Refute it at one input. -/
def shaMetersWrong : ChangeSpec := { name := "shaMeters", fn := fun _ => fun
  | [d1, d2] => { results := [.lit (.bool false)], args := [d1, d2] }
  | _ => none }
def ShaMetersWrongFalsely : Prop := shaMetersRow.holds Tryd.pinned (OpenSpec.ofChange shaMetersWrong)

/-- 'cablegramlaw02.ShaParts': WHATEVER THE INPUT: true; the input reads as it did. -/
def shaPartsSpec : ChangeSpec := { name := "shaParts", fn := fun _ => fun
  | [d1, d2, d3] => { results := [.lit (.bool true)], args := [d1, d2, d3] }
  | _ => none }
def shaPartsRow : OpenClaim := { program := "ytopmdbmnlflpgaadoor", sum := "6074fc49deaa68c71fa04f45e24097793078a1505d5d464b6101c8bf0afb7030", func := "cablegram/cablegramlaw02.ShaParts", spec := "shaParts", inPlace := ["sync/atomic.AddInt64", "(*internal/sync.Mutex).Lock", "internal/race.Disable", "sync/atomic.CompareAndSwapInt32", "internal/race.Enable", "internal/race.Acquire", "(*internal/sync.Mutex).lockSlow", "internal/sync.runtime_canSpin", "internal/sync.runtime_doSpin", "internal/sync.throw", "internal/sync.runtime_nanotime", "internal/sync.runtime_SemacquireMutex", "sync/atomic.AddInt32", "(*internal/sync.Mutex).Unlock", "internal/race.ReleaseMerge", "(*internal/sync.Mutex).unlockSlow", "internal/sync.fatal", "internal/sync.runtime_Semrelease", "sync/atomic.LoadInt64"], named := ["cablegram/sha.start", "cablegram/sha.rounds"], plainKeys := false, apart := false, laid := [("cablegram/sha.rounds", laid_cablegram_sha_rounds), ("cablegram/sha.start", laid_cablegram_sha_start)] }
def ShaPartsSaid : Prop := shaPartsRow.holds Tryd.pinned (OpenSpec.ofChange shaPartsSpec)

/-- ITS FALSE NEIGHBOUR: 'it returns false'. Refute it at one input. -/
def shaPartsWrong : ChangeSpec := { name := "shaParts", fn := fun _ => fun
  | [d1, d2, d3] => { results := [.lit (.bool false)], args := [d1, d2, d3] }
  | _ => none }
def ShaPartsWrongFalsely : Prop := shaPartsRow.holds Tryd.pinned (OpenSpec.ofChange shaPartsWrong)

/-- 'cablegramlaw14.TrailGoes': WHATEVER THE INPUT: true; the input reads as it did. -/
def trailGoesSpec : ChangeSpec := { name := "trailGoes", fn := fun _ => fun
  | [d1, d2, d3, d4] => { results := [.lit (.bool true)], args := [d1, d2, d3, d4] }
  | _ => none }
def trailGoesRow : OpenClaim := { program := "ytopmdbmnlflpgaadoor", sum := "6074fc49deaa68c71fa04f45e24097793078a1505d5d464b6101c8bf0afb7030", func := "cablegram/cablegramlaw14.TrailGoes", spec := "trailGoes", inPlace := ["sync/atomic.AddInt64", "(*internal/sync.Mutex).Lock", "internal/race.Disable", "sync/atomic.CompareAndSwapInt32", "internal/race.Enable", "internal/race.Acquire", "(*internal/sync.Mutex).lockSlow", "internal/sync.runtime_canSpin", "internal/sync.runtime_doSpin", "internal/sync.throw", "internal/sync.runtime_nanotime", "internal/sync.runtime_SemacquireMutex", "sync/atomic.AddInt32", "(*internal/sync.Mutex).Unlock", "internal/race.ReleaseMerge", "(*internal/sync.Mutex).unlockSlow", "internal/sync.fatal", "internal/sync.runtime_Semrelease"], unfollowed := true, recurses := true, named := ["cablegram/sha.start", "cablegram/sha.rounds"], plainKeys := false, apart := false, laid := [("cablegram/sha.rounds", laid_cablegram_sha_rounds), ("cablegram/sha.start", laid_cablegram_sha_start)] }
def TrailGoesSaid : Prop := trailGoesRow.holds Tryd.pinned (OpenSpec.ofChange trailGoesSpec)

/-- ITS FALSE NEIGHBOUR: 'it returns false'. Refute it at one input. -/
def trailGoesWrong : ChangeSpec := { name := "trailGoes", fn := fun _ => fun
  | [d1, d2, d3, d4] => { results := [.lit (.bool false)], args := [d1, d2, d3, d4] }
  | _ => none }
def TrailGoesWrongFalsely : Prop := trailGoesRow.holds Tryd.pinned (OpenSpec.ofChange trailGoesWrong)

/-- 'cablegramlaw14.TrailCut': WHATEVER THE INPUT: true; the input reads as it did. -/
def trailCutSpec : ChangeSpec := { name := "trailCut", fn := fun _ => fun
  | [d1, d2] => { results := [.lit (.bool true)], args := [d1, d2] }
  | _ => none }
def trailCutRow : OpenClaim := { program := "ytopmdbmnlflpgaadoor", sum := "6074fc49deaa68c71fa04f45e24097793078a1505d5d464b6101c8bf0afb7030", func := "cablegram/cablegramlaw14.TrailCut", spec := "trailCut", inPlace := ["sync/atomic.AddInt64", "(*internal/sync.Mutex).Lock", "internal/race.Disable", "sync/atomic.CompareAndSwapInt32", "internal/race.Enable", "internal/race.Acquire", "(*internal/sync.Mutex).lockSlow", "internal/sync.runtime_canSpin", "internal/sync.runtime_doSpin", "internal/sync.throw", "internal/sync.runtime_nanotime", "internal/sync.runtime_SemacquireMutex", "sync/atomic.AddInt32", "(*internal/sync.Mutex).Unlock", "internal/race.ReleaseMerge", "(*internal/sync.Mutex).unlockSlow", "internal/sync.fatal", "internal/sync.runtime_Semrelease"], unfollowed := true, recurses := true, named := ["cablegram/sha.start", "cablegram/sha.rounds"], plainKeys := false, apart := false, laid := [("cablegram/sha.rounds", laid_cablegram_sha_rounds), ("cablegram/sha.start", laid_cablegram_sha_start)] }
def TrailCutSaid : Prop := trailCutRow.holds Tryd.pinned (OpenSpec.ofChange trailCutSpec)

/-- ITS FALSE NEIGHBOUR: 'it returns false'. Refute it at one input. -/
def trailCutWrong : ChangeSpec := { name := "trailCut", fn := fun _ => fun
  | [d1, d2] => { results := [.lit (.bool false)], args := [d1, d2] }
  | _ => none }
def TrailCutWrongFalsely : Prop := trailCutRow.holds Tryd.pinned (OpenSpec.ofChange trailCutWrong)

/-- 'cablegramlaw13.DrawsPlays': WHATEVER THE INPUT: true; the input reads as it did. -/
def drawsPlaysSpec : ChangeSpec := { name := "drawsPlays", fn := fun _ => fun
  | [d1, d2, d3] => { results := [.lit (.bool true)], args := [d1, d2, d3] }
  | _ => none }
def drawsPlaysRow : OpenClaim := { program := "ytopmdbmnlflpgaadoor", sum := "6074fc49deaa68c71fa04f45e24097793078a1505d5d464b6101c8bf0afb7030", func := "cablegram/cablegramlaw13.DrawsPlays", spec := "drawsPlays", inPlace := ["sync/atomic.AddInt64", "(*internal/sync.Mutex).Lock", "internal/race.Disable", "sync/atomic.CompareAndSwapInt32", "internal/race.Enable", "internal/race.Acquire", "(*internal/sync.Mutex).lockSlow", "internal/sync.runtime_canSpin", "internal/sync.runtime_doSpin", "internal/sync.throw", "internal/sync.runtime_nanotime", "internal/sync.runtime_SemacquireMutex", "sync/atomic.AddInt32", "(*internal/sync.Mutex).Unlock", "internal/race.ReleaseMerge", "(*internal/sync.Mutex).unlockSlow", "internal/sync.fatal", "internal/sync.runtime_Semrelease"], named := ["cablegram/sha.start", "cablegram/sha.rounds"], plainKeys := false, apart := false, laid := [("cablegram/sha.rounds", laid_cablegram_sha_rounds), ("cablegram/sha.start", laid_cablegram_sha_start)] }
def DrawsPlaysSaid : Prop := drawsPlaysRow.holds Tryd.pinned (OpenSpec.ofChange drawsPlaysSpec)

/-- ITS FALSE NEIGHBOUR: 'it returns false'. Refute it at one input. -/
def drawsPlaysWrong : ChangeSpec := { name := "drawsPlays", fn := fun _ => fun
  | [d1, d2, d3] => { results := [.lit (.bool false)], args := [d1, d2, d3] }
  | _ => none }
def DrawsPlaysWrongFalsely : Prop := drawsPlaysRow.holds Tryd.pinned (OpenSpec.ofChange drawsPlaysWrong)

/-- 'cablegramlaw13.DrawsAgain': WHATEVER THE INPUT: true; the input reads as it did. -/
def drawsAgainSpec : ChangeSpec := { name := "drawsAgain", fn := fun _ => fun
  | [d1, d2, d3, d4, d5] => { results := [.lit (.bool true)], args := [d1, d2, d3, d4, d5] }
  | _ => none }
def drawsAgainRow : OpenClaim := { program := "ytopmdbmnlflpgaadoor", sum := "6074fc49deaa68c71fa04f45e24097793078a1505d5d464b6101c8bf0afb7030", func := "cablegram/cablegramlaw13.DrawsAgain", spec := "drawsAgain", inPlace := ["sync/atomic.AddInt64", "(*internal/sync.Mutex).Lock", "internal/race.Disable", "sync/atomic.CompareAndSwapInt32", "internal/race.Enable", "internal/race.Acquire", "(*internal/sync.Mutex).lockSlow", "internal/sync.runtime_canSpin", "internal/sync.runtime_doSpin", "internal/sync.throw", "internal/sync.runtime_nanotime", "internal/sync.runtime_SemacquireMutex", "sync/atomic.AddInt32", "(*internal/sync.Mutex).Unlock", "internal/race.ReleaseMerge", "(*internal/sync.Mutex).unlockSlow", "internal/sync.fatal", "internal/sync.runtime_Semrelease"], named := ["cablegram/sha.start", "cablegram/sha.rounds"], plainKeys := false, apart := false, laid := [("cablegram/sha.rounds", laid_cablegram_sha_rounds), ("cablegram/sha.start", laid_cablegram_sha_start)] }
def DrawsAgainSaid : Prop := drawsAgainRow.holds Tryd.pinned (OpenSpec.ofChange drawsAgainSpec)

/-- ITS FALSE NEIGHBOUR: 'it returns false'. Refute it at one input. -/
def drawsAgainWrong : ChangeSpec := { name := "drawsAgain", fn := fun _ => fun
  | [d1, d2, d3, d4, d5] => { results := [.lit (.bool false)], args := [d1, d2, d3, d4, d5] }
  | _ => none }
def DrawsAgainWrongFalsely : Prop := drawsAgainRow.holds Tryd.pinned (OpenSpec.ofChange drawsAgainWrong)

/-- 'cablegramlaw03.MacDerives': WHATEVER THE INPUT: true; the input reads as it did. -/
def macDerivesSpec : ChangeSpec := { name := "macDerives", fn := fun _ => fun
  | [d1, d2, d3, d4, d5] => { results := [.lit (.bool true)], args := [d1, d2, d3, d4, d5] }
  | _ => none }
def macDerivesRow : OpenClaim := { program := "ytopmdbmnlflpgaadoor", sum := "6074fc49deaa68c71fa04f45e24097793078a1505d5d464b6101c8bf0afb7030", func := "cablegram/cablegramlaw03.MacDerives", spec := "macDerives", inPlace := ["sync/atomic.AddInt64", "(*internal/sync.Mutex).Lock", "internal/race.Disable", "sync/atomic.CompareAndSwapInt32", "internal/race.Enable", "internal/race.Acquire", "(*internal/sync.Mutex).lockSlow", "internal/sync.runtime_canSpin", "internal/sync.runtime_doSpin", "internal/sync.throw", "internal/sync.runtime_nanotime", "internal/sync.runtime_SemacquireMutex", "sync/atomic.AddInt32", "(*internal/sync.Mutex).Unlock", "internal/race.ReleaseMerge", "(*internal/sync.Mutex).unlockSlow", "internal/sync.fatal", "internal/sync.runtime_Semrelease"], unfollowed := true, recurses := true, named := ["cablegram/sha.start", "cablegram/sha.rounds"], plainKeys := false, apart := false, laid := [("cablegram/sha.rounds", laid_cablegram_sha_rounds), ("cablegram/sha.start", laid_cablegram_sha_start)] }
def MacDerivesSaid : Prop := macDerivesRow.holds Tryd.pinned (OpenSpec.ofChange macDerivesSpec)

/-- ITS FALSE NEIGHBOUR: 'it returns false'. Refute it at one input. -/
def macDerivesWrong : ChangeSpec := { name := "macDerives", fn := fun _ => fun
  | [d1, d2, d3, d4, d5] => { results := [.lit (.bool false)], args := [d1, d2, d3, d4, d5] }
  | _ => none }
def MacDerivesWrongFalsely : Prop := macDerivesRow.holds Tryd.pinned (OpenSpec.ofChange macDerivesWrong)

/-- 'cablegramlaw14.TrailPast': WHATEVER THE INPUT: true; the input reads as it did. -/
def trailPastSpec : ChangeSpec := { name := "trailPast", fn := fun _ => fun
  | [d] => { results := [.lit (.bool true)], args := [d] }
  | _ => none }
def trailPastRow : OpenClaim := { program := "ytopmdbmnlflpgaadoor", sum := "6074fc49deaa68c71fa04f45e24097793078a1505d5d464b6101c8bf0afb7030", func := "cablegram/cablegramlaw14.TrailPast", spec := "trailPast", inPlace := ["sync/atomic.AddInt64", "(*internal/sync.Mutex).Lock", "internal/race.Disable", "sync/atomic.CompareAndSwapInt32", "internal/race.Enable", "internal/race.Acquire", "(*internal/sync.Mutex).lockSlow", "internal/sync.runtime_canSpin", "internal/sync.runtime_doSpin", "internal/sync.throw", "internal/sync.runtime_nanotime", "internal/sync.runtime_SemacquireMutex", "sync/atomic.AddInt32", "(*internal/sync.Mutex).Unlock", "internal/race.ReleaseMerge", "(*internal/sync.Mutex).unlockSlow", "internal/sync.fatal", "internal/sync.runtime_Semrelease"], unfollowed := true, recurses := true, named := ["cablegram/sha.start", "cablegram/sha.rounds"], plainKeys := false, apart := false, laid := [("cablegram/sha.rounds", laid_cablegram_sha_rounds), ("cablegram/sha.start", laid_cablegram_sha_start)] }
def TrailPastSaid : Prop := trailPastRow.holds Tryd.pinned (OpenSpec.ofChange trailPastSpec)

/-- ITS FALSE NEIGHBOUR: 'it returns false'. Refute it at one input. -/
def trailPastWrong : ChangeSpec := { name := "trailPast", fn := fun _ => fun
  | [d] => { results := [.lit (.bool false)], args := [d] }
  | _ => none }
def TrailPastWrongFalsely : Prop := trailPastRow.holds Tryd.pinned (OpenSpec.ofChange trailPastWrong)

/- THE SECOND FORM. 'bulk': how many values and letters a reading holds, each counted each time it is reached (what is shared counts as often as it is met; a slice's spare places count too). A statement '..UptoSaid' is the law's where the arguments, and the package variables that the reading takes, are together of bulk at most 1048576: NARROWER than '..Said'. Prove '..Said' where nothing that the law and all that it calls make is longer than what came in: it says more and counts as full. Else prove '..UptoSaid'. A law counts once. -/
mutual
def uptoBulk {H : Type} : DataW H → Nat
  | .lit (.string bytes) => bytes.length + 1
  | .lit _ => 1
  | .nil => 1
  | .ptr d => uptoBulk d + 1
  | .slice elems spare => uptoBulkAll elems + uptoBulkAll spare + 1
  | .agg parts => uptoBulkAll parts + 1
  | .iface _ d => uptoBulk d + 1
  | .map entries => uptoBulkEntries entries + 1
  | .held _ => 1
def uptoBulkAll {H : Type} : List (DataW H) → Nat
  | [] => 0
  | d :: r => uptoBulk d + uptoBulkAll r
def uptoBulkEntries {H : Type} : List (Lit × DataW H) → Nat
  | [] => 0
  | x :: r => uptoBulkEntry x + uptoBulkEntries r
def uptoBulkEntry {H : Type} : Lit × DataW H → Nat
  | (.string bytes, d) => bytes.length + uptoBulk d + 1
  | (_, d) => uptoBulk d + 1
 end
def uptoSmall : (H : Type) → List (DataW H) → Bool := fun _ ds => decide (uptoBulkAll ds ≤ 1048576)
def OpenSpec.upto (s : _root_.Go.ChangeSpec) : _root_.Go.OpenSpec := { _root_.Go.OpenSpec.ofChange s with cond := some uptoSmall }

/-- 'cablegramlaw02.ShaBlocks', WHERE WHAT IT READS IS OF BULK AT MOST 1048576: true; the input reads as it did. -/
def shaBlocksUptoRow : OpenClaim := { program := "ytopmdbmnlflpgaadoor", sum := "6074fc49deaa68c71fa04f45e24097793078a1505d5d464b6101c8bf0afb7030", func := "cablegram/cablegramlaw02.ShaBlocks", spec := "shaBlocks", inPlace := ["sync/atomic.AddInt64", "(*internal/sync.Mutex).Lock", "internal/race.Disable", "sync/atomic.CompareAndSwapInt32", "internal/race.Enable", "internal/race.Acquire", "(*internal/sync.Mutex).lockSlow", "internal/sync.runtime_canSpin", "internal/sync.runtime_doSpin", "internal/sync.throw", "internal/sync.runtime_nanotime", "internal/sync.runtime_SemacquireMutex", "sync/atomic.AddInt32", "(*internal/sync.Mutex).Unlock", "internal/race.ReleaseMerge", "(*internal/sync.Mutex).unlockSlow", "internal/sync.fatal", "internal/sync.runtime_Semrelease"], named := ["cablegram/sha.start", "cablegram/sha.rounds"], plainKeys := false, apart := false, laid := [("cablegram/sha.rounds", laid_cablegram_sha_rounds), ("cablegram/sha.start", laid_cablegram_sha_start)], narrowed := true }
def ShaBlocksUptoSaid : Prop := shaBlocksUptoRow.holds Tryd.pinned (OpenSpec.upto shaBlocksSpec)

/-- 'cablegramlaw02.ShaSums', WHERE WHAT IT READS IS OF BULK AT MOST 1048576: true; the input reads as it did. -/
def shaSumsUptoRow : OpenClaim := { program := "ytopmdbmnlflpgaadoor", sum := "6074fc49deaa68c71fa04f45e24097793078a1505d5d464b6101c8bf0afb7030", func := "cablegram/cablegramlaw02.ShaSums", spec := "shaSums", inPlace := ["sync/atomic.AddInt64", "(*internal/sync.Mutex).Lock", "internal/race.Disable", "sync/atomic.CompareAndSwapInt32", "internal/race.Enable", "internal/race.Acquire", "(*internal/sync.Mutex).lockSlow", "internal/sync.runtime_canSpin", "internal/sync.runtime_doSpin", "internal/sync.throw", "internal/sync.runtime_nanotime", "internal/sync.runtime_SemacquireMutex", "sync/atomic.AddInt32", "(*internal/sync.Mutex).Unlock", "internal/race.ReleaseMerge", "(*internal/sync.Mutex).unlockSlow", "internal/sync.fatal", "internal/sync.runtime_Semrelease"], named := ["cablegram/sha.start", "cablegram/sha.rounds"], plainKeys := false, apart := false, laid := [("cablegram/sha.rounds", laid_cablegram_sha_rounds), ("cablegram/sha.start", laid_cablegram_sha_start)], narrowed := true }
def ShaSumsUptoSaid : Prop := shaSumsUptoRow.holds Tryd.pinned (OpenSpec.upto shaSumsSpec)

/-- 'cablegramlaw02.ShaWhole', WHERE WHAT IT READS IS OF BULK AT MOST 1048576: true; the input reads as it did. -/
def shaWholeUptoRow : OpenClaim := { program := "ytopmdbmnlflpgaadoor", sum := "6074fc49deaa68c71fa04f45e24097793078a1505d5d464b6101c8bf0afb7030", func := "cablegram/cablegramlaw02.ShaWhole", spec := "shaWhole", inPlace := ["sync/atomic.AddInt64", "(*internal/sync.Mutex).Lock", "internal/race.Disable", "sync/atomic.CompareAndSwapInt32", "internal/race.Enable", "internal/race.Acquire", "(*internal/sync.Mutex).lockSlow", "internal/sync.runtime_canSpin", "internal/sync.runtime_doSpin", "internal/sync.throw", "internal/sync.runtime_nanotime", "internal/sync.runtime_SemacquireMutex", "sync/atomic.AddInt32", "(*internal/sync.Mutex).Unlock", "internal/race.ReleaseMerge", "(*internal/sync.Mutex).unlockSlow", "internal/sync.fatal", "internal/sync.runtime_Semrelease"], named := ["cablegram/sha.start", "cablegram/sha.rounds"], plainKeys := false, apart := false, laid := [("cablegram/sha.rounds", laid_cablegram_sha_rounds), ("cablegram/sha.start", laid_cablegram_sha_start)], narrowed := true }
def ShaWholeUptoSaid : Prop := shaWholeUptoRow.holds Tryd.pinned (OpenSpec.upto shaWholeSpec)

/-- 'cablegramlaw02.ShaFolds', WHERE WHAT IT READS IS OF BULK AT MOST 1048576: true; the input reads as it did. -/
def shaFoldsUptoRow : OpenClaim := { program := "ytopmdbmnlflpgaadoor", sum := "6074fc49deaa68c71fa04f45e24097793078a1505d5d464b6101c8bf0afb7030", func := "cablegram/cablegramlaw02.ShaFolds", spec := "shaFolds", inPlace := ["sync/atomic.AddInt64", "(*internal/sync.Mutex).Lock", "internal/race.Disable", "sync/atomic.CompareAndSwapInt32", "internal/race.Enable", "internal/race.Acquire", "(*internal/sync.Mutex).lockSlow", "internal/sync.runtime_canSpin", "internal/sync.runtime_doSpin", "internal/sync.throw", "internal/sync.runtime_nanotime", "internal/sync.runtime_SemacquireMutex", "sync/atomic.AddInt32", "(*internal/sync.Mutex).Unlock", "internal/race.ReleaseMerge", "(*internal/sync.Mutex).unlockSlow", "internal/sync.fatal", "internal/sync.runtime_Semrelease"], named := ["cablegram/sha.start", "cablegram/sha.rounds"], plainKeys := false, apart := false, laid := [("cablegram/sha.rounds", laid_cablegram_sha_rounds), ("cablegram/sha.start", laid_cablegram_sha_start)], narrowed := true }
def ShaFoldsUptoSaid : Prop := shaFoldsUptoRow.holds Tryd.pinned (OpenSpec.upto shaFoldsSpec)

/-- 'cablegramlaw03.MacExpands', WHERE WHAT IT READS IS OF BULK AT MOST 1048576: true; the input reads as it did. -/
def macExpandsUptoRow : OpenClaim := { program := "ytopmdbmnlflpgaadoor", sum := "6074fc49deaa68c71fa04f45e24097793078a1505d5d464b6101c8bf0afb7030", func := "cablegram/cablegramlaw03.MacExpands", spec := "macExpands", inPlace := ["sync/atomic.AddInt64", "(*internal/sync.Mutex).Lock", "internal/race.Disable", "sync/atomic.CompareAndSwapInt32", "internal/race.Enable", "internal/race.Acquire", "(*internal/sync.Mutex).lockSlow", "internal/sync.runtime_canSpin", "internal/sync.runtime_doSpin", "internal/sync.throw", "internal/sync.runtime_nanotime", "internal/sync.runtime_SemacquireMutex", "sync/atomic.AddInt32", "(*internal/sync.Mutex).Unlock", "internal/race.ReleaseMerge", "(*internal/sync.Mutex).unlockSlow", "internal/sync.fatal", "internal/sync.runtime_Semrelease"], unfollowed := true, recurses := true, named := ["cablegram/sha.start", "cablegram/sha.rounds"], plainKeys := false, apart := false, laid := [("cablegram/sha.rounds", laid_cablegram_sha_rounds), ("cablegram/sha.start", laid_cablegram_sha_start)], narrowed := true }
def MacExpandsUptoSaid : Prop := macExpandsUptoRow.holds Tryd.pinned (OpenSpec.upto macExpandsSpec)

/-- 'cablegramlaw03.MacLonger', WHERE WHAT IT READS IS OF BULK AT MOST 1048576: true; the input reads as it did. -/
def macLongerUptoRow : OpenClaim := { program := "ytopmdbmnlflpgaadoor", sum := "6074fc49deaa68c71fa04f45e24097793078a1505d5d464b6101c8bf0afb7030", func := "cablegram/cablegramlaw03.MacLonger", spec := "macLonger", inPlace := ["sync/atomic.AddInt64", "(*internal/sync.Mutex).Lock", "internal/race.Disable", "sync/atomic.CompareAndSwapInt32", "internal/race.Enable", "internal/race.Acquire", "(*internal/sync.Mutex).lockSlow", "internal/sync.runtime_canSpin", "internal/sync.runtime_doSpin", "internal/sync.throw", "internal/sync.runtime_nanotime", "internal/sync.runtime_SemacquireMutex", "sync/atomic.AddInt32", "(*internal/sync.Mutex).Unlock", "internal/race.ReleaseMerge", "(*internal/sync.Mutex).unlockSlow", "internal/sync.fatal", "internal/sync.runtime_Semrelease"], unfollowed := true, recurses := true, named := ["cablegram/sha.start", "cablegram/sha.rounds"], plainKeys := false, apart := false, laid := [("cablegram/sha.rounds", laid_cablegram_sha_rounds), ("cablegram/sha.start", laid_cablegram_sha_start)], narrowed := true }
def MacLongerUptoSaid : Prop := macLongerUptoRow.holds Tryd.pinned (OpenSpec.upto macLongerSpec)

/-- 'cablegramlaw03.MacZeros', WHERE WHAT IT READS IS OF BULK AT MOST 1048576: true; the input reads as it did. -/
def macZerosUptoRow : OpenClaim := { program := "ytopmdbmnlflpgaadoor", sum := "6074fc49deaa68c71fa04f45e24097793078a1505d5d464b6101c8bf0afb7030", func := "cablegram/cablegramlaw03.MacZeros", spec := "macZeros", inPlace := ["sync/atomic.AddInt64", "(*internal/sync.Mutex).Lock", "internal/race.Disable", "sync/atomic.CompareAndSwapInt32", "internal/race.Enable", "internal/race.Acquire", "(*internal/sync.Mutex).lockSlow", "internal/sync.runtime_canSpin", "internal/sync.runtime_doSpin", "internal/sync.throw", "internal/sync.runtime_nanotime", "internal/sync.runtime_SemacquireMutex", "sync/atomic.AddInt32", "(*internal/sync.Mutex).Unlock", "internal/race.ReleaseMerge", "(*internal/sync.Mutex).unlockSlow", "internal/sync.fatal", "internal/sync.runtime_Semrelease"], unfollowed := true, recurses := true, named := ["cablegram/sha.start", "cablegram/sha.rounds"], plainKeys := false, apart := false, laid := [("cablegram/sha.rounds", laid_cablegram_sha_rounds), ("cablegram/sha.start", laid_cablegram_sha_start)], narrowed := true }
def MacZerosUptoSaid : Prop := macZerosUptoRow.holds Tryd.pinned (OpenSpec.upto macZerosSpec)

/-- 'cablegramlaw03.MacSums', WHERE WHAT IT READS IS OF BULK AT MOST 1048576: true; the input reads as it did. -/
def macSumsUptoRow : OpenClaim := { program := "ytopmdbmnlflpgaadoor", sum := "6074fc49deaa68c71fa04f45e24097793078a1505d5d464b6101c8bf0afb7030", func := "cablegram/cablegramlaw03.MacSums", spec := "macSums", inPlace := ["sync/atomic.AddInt64", "(*internal/sync.Mutex).Lock", "internal/race.Disable", "sync/atomic.CompareAndSwapInt32", "internal/race.Enable", "internal/race.Acquire", "(*internal/sync.Mutex).lockSlow", "internal/sync.runtime_canSpin", "internal/sync.runtime_doSpin", "internal/sync.throw", "internal/sync.runtime_nanotime", "internal/sync.runtime_SemacquireMutex", "sync/atomic.AddInt32", "(*internal/sync.Mutex).Unlock", "internal/race.ReleaseMerge", "(*internal/sync.Mutex).unlockSlow", "internal/sync.fatal", "internal/sync.runtime_Semrelease"], unfollowed := true, recurses := true, named := ["cablegram/sha.start", "cablegram/sha.rounds"], plainKeys := false, apart := false, laid := [("cablegram/sha.rounds", laid_cablegram_sha_rounds), ("cablegram/sha.start", laid_cablegram_sha_start)], narrowed := true }
def MacSumsUptoSaid : Prop := macSumsUptoRow.holds Tryd.pinned (OpenSpec.upto macSumsSpec)

/-- 'cablegramlaw02.ShaMeters', WHERE WHAT IT READS IS OF BULK AT MOST 1048576: true; the input reads as it did. -/
def shaMetersUptoRow : OpenClaim := { program := "ytopmdbmnlflpgaadoor", sum := "6074fc49deaa68c71fa04f45e24097793078a1505d5d464b6101c8bf0afb7030", func := "cablegram/cablegramlaw02.ShaMeters", spec := "shaMeters", inPlace := ["sync/atomic.AddInt64", "(*internal/sync.Mutex).Lock", "internal/race.Disable", "sync/atomic.CompareAndSwapInt32", "internal/race.Enable", "internal/race.Acquire", "(*internal/sync.Mutex).lockSlow", "internal/sync.runtime_canSpin", "internal/sync.runtime_doSpin", "internal/sync.throw", "internal/sync.runtime_nanotime", "internal/sync.runtime_SemacquireMutex", "sync/atomic.AddInt32", "(*internal/sync.Mutex).Unlock", "internal/race.ReleaseMerge", "(*internal/sync.Mutex).unlockSlow", "internal/sync.fatal", "internal/sync.runtime_Semrelease", "sync/atomic.LoadInt64"], named := ["cablegram/sha.start", "cablegram/sha.rounds"], plainKeys := false, apart := false, laid := [("cablegram/sha.rounds", laid_cablegram_sha_rounds), ("cablegram/sha.start", laid_cablegram_sha_start)], narrowed := true }
def ShaMetersUptoSaid : Prop := shaMetersUptoRow.holds Tryd.pinned (OpenSpec.upto shaMetersSpec)

/-- 'cablegramlaw02.ShaParts', WHERE WHAT IT READS IS OF BULK AT MOST 1048576: true; the input reads as it did. -/
def shaPartsUptoRow : OpenClaim := { program := "ytopmdbmnlflpgaadoor", sum := "6074fc49deaa68c71fa04f45e24097793078a1505d5d464b6101c8bf0afb7030", func := "cablegram/cablegramlaw02.ShaParts", spec := "shaParts", inPlace := ["sync/atomic.AddInt64", "(*internal/sync.Mutex).Lock", "internal/race.Disable", "sync/atomic.CompareAndSwapInt32", "internal/race.Enable", "internal/race.Acquire", "(*internal/sync.Mutex).lockSlow", "internal/sync.runtime_canSpin", "internal/sync.runtime_doSpin", "internal/sync.throw", "internal/sync.runtime_nanotime", "internal/sync.runtime_SemacquireMutex", "sync/atomic.AddInt32", "(*internal/sync.Mutex).Unlock", "internal/race.ReleaseMerge", "(*internal/sync.Mutex).unlockSlow", "internal/sync.fatal", "internal/sync.runtime_Semrelease", "sync/atomic.LoadInt64"], named := ["cablegram/sha.start", "cablegram/sha.rounds"], plainKeys := false, apart := false, laid := [("cablegram/sha.rounds", laid_cablegram_sha_rounds), ("cablegram/sha.start", laid_cablegram_sha_start)], narrowed := true }
def ShaPartsUptoSaid : Prop := shaPartsUptoRow.holds Tryd.pinned (OpenSpec.upto shaPartsSpec)

/-- 'cablegramlaw14.TrailGoes', WHERE WHAT IT READS IS OF BULK AT MOST 1048576: true; the input reads as it did. -/
def trailGoesUptoRow : OpenClaim := { program := "ytopmdbmnlflpgaadoor", sum := "6074fc49deaa68c71fa04f45e24097793078a1505d5d464b6101c8bf0afb7030", func := "cablegram/cablegramlaw14.TrailGoes", spec := "trailGoes", inPlace := ["sync/atomic.AddInt64", "(*internal/sync.Mutex).Lock", "internal/race.Disable", "sync/atomic.CompareAndSwapInt32", "internal/race.Enable", "internal/race.Acquire", "(*internal/sync.Mutex).lockSlow", "internal/sync.runtime_canSpin", "internal/sync.runtime_doSpin", "internal/sync.throw", "internal/sync.runtime_nanotime", "internal/sync.runtime_SemacquireMutex", "sync/atomic.AddInt32", "(*internal/sync.Mutex).Unlock", "internal/race.ReleaseMerge", "(*internal/sync.Mutex).unlockSlow", "internal/sync.fatal", "internal/sync.runtime_Semrelease"], unfollowed := true, recurses := true, named := ["cablegram/sha.start", "cablegram/sha.rounds"], plainKeys := false, apart := false, laid := [("cablegram/sha.rounds", laid_cablegram_sha_rounds), ("cablegram/sha.start", laid_cablegram_sha_start)], narrowed := true }
def TrailGoesUptoSaid : Prop := trailGoesUptoRow.holds Tryd.pinned (OpenSpec.upto trailGoesSpec)

/-- 'cablegramlaw14.TrailCut', WHERE WHAT IT READS IS OF BULK AT MOST 1048576: true; the input reads as it did. -/
def trailCutUptoRow : OpenClaim := { program := "ytopmdbmnlflpgaadoor", sum := "6074fc49deaa68c71fa04f45e24097793078a1505d5d464b6101c8bf0afb7030", func := "cablegram/cablegramlaw14.TrailCut", spec := "trailCut", inPlace := ["sync/atomic.AddInt64", "(*internal/sync.Mutex).Lock", "internal/race.Disable", "sync/atomic.CompareAndSwapInt32", "internal/race.Enable", "internal/race.Acquire", "(*internal/sync.Mutex).lockSlow", "internal/sync.runtime_canSpin", "internal/sync.runtime_doSpin", "internal/sync.throw", "internal/sync.runtime_nanotime", "internal/sync.runtime_SemacquireMutex", "sync/atomic.AddInt32", "(*internal/sync.Mutex).Unlock", "internal/race.ReleaseMerge", "(*internal/sync.Mutex).unlockSlow", "internal/sync.fatal", "internal/sync.runtime_Semrelease"], unfollowed := true, recurses := true, named := ["cablegram/sha.start", "cablegram/sha.rounds"], plainKeys := false, apart := false, laid := [("cablegram/sha.rounds", laid_cablegram_sha_rounds), ("cablegram/sha.start", laid_cablegram_sha_start)], narrowed := true }
def TrailCutUptoSaid : Prop := trailCutUptoRow.holds Tryd.pinned (OpenSpec.upto trailCutSpec)

/-- 'cablegramlaw13.DrawsPlays', WHERE WHAT IT READS IS OF BULK AT MOST 1048576: true; the input reads as it did. -/
def drawsPlaysUptoRow : OpenClaim := { program := "ytopmdbmnlflpgaadoor", sum := "6074fc49deaa68c71fa04f45e24097793078a1505d5d464b6101c8bf0afb7030", func := "cablegram/cablegramlaw13.DrawsPlays", spec := "drawsPlays", inPlace := ["sync/atomic.AddInt64", "(*internal/sync.Mutex).Lock", "internal/race.Disable", "sync/atomic.CompareAndSwapInt32", "internal/race.Enable", "internal/race.Acquire", "(*internal/sync.Mutex).lockSlow", "internal/sync.runtime_canSpin", "internal/sync.runtime_doSpin", "internal/sync.throw", "internal/sync.runtime_nanotime", "internal/sync.runtime_SemacquireMutex", "sync/atomic.AddInt32", "(*internal/sync.Mutex).Unlock", "internal/race.ReleaseMerge", "(*internal/sync.Mutex).unlockSlow", "internal/sync.fatal", "internal/sync.runtime_Semrelease"], named := ["cablegram/sha.start", "cablegram/sha.rounds"], plainKeys := false, apart := false, laid := [("cablegram/sha.rounds", laid_cablegram_sha_rounds), ("cablegram/sha.start", laid_cablegram_sha_start)], narrowed := true }
def DrawsPlaysUptoSaid : Prop := drawsPlaysUptoRow.holds Tryd.pinned (OpenSpec.upto drawsPlaysSpec)

/-- 'cablegramlaw13.DrawsAgain', WHERE WHAT IT READS IS OF BULK AT MOST 1048576: true; the input reads as it did. -/
def drawsAgainUptoRow : OpenClaim := { program := "ytopmdbmnlflpgaadoor", sum := "6074fc49deaa68c71fa04f45e24097793078a1505d5d464b6101c8bf0afb7030", func := "cablegram/cablegramlaw13.DrawsAgain", spec := "drawsAgain", inPlace := ["sync/atomic.AddInt64", "(*internal/sync.Mutex).Lock", "internal/race.Disable", "sync/atomic.CompareAndSwapInt32", "internal/race.Enable", "internal/race.Acquire", "(*internal/sync.Mutex).lockSlow", "internal/sync.runtime_canSpin", "internal/sync.runtime_doSpin", "internal/sync.throw", "internal/sync.runtime_nanotime", "internal/sync.runtime_SemacquireMutex", "sync/atomic.AddInt32", "(*internal/sync.Mutex).Unlock", "internal/race.ReleaseMerge", "(*internal/sync.Mutex).unlockSlow", "internal/sync.fatal", "internal/sync.runtime_Semrelease"], named := ["cablegram/sha.start", "cablegram/sha.rounds"], plainKeys := false, apart := false, laid := [("cablegram/sha.rounds", laid_cablegram_sha_rounds), ("cablegram/sha.start", laid_cablegram_sha_start)], narrowed := true }
def DrawsAgainUptoSaid : Prop := drawsAgainUptoRow.holds Tryd.pinned (OpenSpec.upto drawsAgainSpec)

/-- 'cablegramlaw03.MacDerives', WHERE WHAT IT READS IS OF BULK AT MOST 1048576: true; the input reads as it did. -/
def macDerivesUptoRow : OpenClaim := { program := "ytopmdbmnlflpgaadoor", sum := "6074fc49deaa68c71fa04f45e24097793078a1505d5d464b6101c8bf0afb7030", func := "cablegram/cablegramlaw03.MacDerives", spec := "macDerives", inPlace := ["sync/atomic.AddInt64", "(*internal/sync.Mutex).Lock", "internal/race.Disable", "sync/atomic.CompareAndSwapInt32", "internal/race.Enable", "internal/race.Acquire", "(*internal/sync.Mutex).lockSlow", "internal/sync.runtime_canSpin", "internal/sync.runtime_doSpin", "internal/sync.throw", "internal/sync.runtime_nanotime", "internal/sync.runtime_SemacquireMutex", "sync/atomic.AddInt32", "(*internal/sync.Mutex).Unlock", "internal/race.ReleaseMerge", "(*internal/sync.Mutex).unlockSlow", "internal/sync.fatal", "internal/sync.runtime_Semrelease"], unfollowed := true, recurses := true, named := ["cablegram/sha.start", "cablegram/sha.rounds"], plainKeys := false, apart := false, laid := [("cablegram/sha.rounds", laid_cablegram_sha_rounds), ("cablegram/sha.start", laid_cablegram_sha_start)], narrowed := true }
def MacDerivesUptoSaid : Prop := macDerivesUptoRow.holds Tryd.pinned (OpenSpec.upto macDerivesSpec)

/-- 'cablegramlaw14.TrailPast', WHERE WHAT IT READS IS OF BULK AT MOST 1048576: true; the input reads as it did. -/
def trailPastUptoRow : OpenClaim := { program := "ytopmdbmnlflpgaadoor", sum := "6074fc49deaa68c71fa04f45e24097793078a1505d5d464b6101c8bf0afb7030", func := "cablegram/cablegramlaw14.TrailPast", spec := "trailPast", inPlace := ["sync/atomic.AddInt64", "(*internal/sync.Mutex).Lock", "internal/race.Disable", "sync/atomic.CompareAndSwapInt32", "internal/race.Enable", "internal/race.Acquire", "(*internal/sync.Mutex).lockSlow", "internal/sync.runtime_canSpin", "internal/sync.runtime_doSpin", "internal/sync.throw", "internal/sync.runtime_nanotime", "internal/sync.runtime_SemacquireMutex", "sync/atomic.AddInt32", "(*internal/sync.Mutex).Unlock", "internal/race.ReleaseMerge", "(*internal/sync.Mutex).unlockSlow", "internal/sync.fatal", "internal/sync.runtime_Semrelease"], unfollowed := true, recurses := true, named := ["cablegram/sha.start", "cablegram/sha.rounds"], plainKeys := false, apart := false, laid := [("cablegram/sha.rounds", laid_cablegram_sha_rounds), ("cablegram/sha.start", laid_cablegram_sha_start)], narrowed := true }
def TrailPastUptoSaid : Prop := trailPastUptoRow.holds Tryd.pinned (OpenSpec.upto trailPastSpec)

end Rows
end Go.Proofs.YtopmdbmnlflpgaaDoor
