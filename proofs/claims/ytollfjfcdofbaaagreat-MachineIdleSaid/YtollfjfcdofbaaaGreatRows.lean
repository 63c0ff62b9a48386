/-
  No cell of these rows narrows 'for every input' (looked for: loops, veiled, ifaces, maps, wideKeys, modest, calm, conditions, laid).
  DERIVED. THE GIVEN ROWS OF THIS SEAT. 19 by the template 'for every input the law returns true; each argument reads behind the call as it read before'; 0 by the template 'total and deterministic' (their statements: YtollfjfcdofbaaaGreatTotals.lean).
  GIVEN WITH THE SEED: the statements are not yours to turn. If you find one false, say at which input.
  Laid BY PROGRAM, IN A SANDBOX (cutbox-rows.mjs): the forced cells as the released guide's own fill.sh prints them over the translation 5c779037a3ff1f74… (all of the seat's roots in one cut). By AI agents, Wed Nov 11 2026. No macro, syntax, notation, axiom, sorry.
-/
import Derived.Test.YtollfjfcdofbaaaGreatChecked
import GoSem.Claim
import GoSem.ClaimJoined
import GoSem.ClaimMapViews
import Derived.JoinedTies
import Derived.KernelRfl
namespace Go.Proofs.YtollfjfcdofbaaaGreat
/- THE CELL 'sum', in the pinned program and in every row, IS THE sha256 OF THE DUMP (.gsa) THAT YtollfjfcdofbaaaGreatProg.lean LOADS. Nothing in Lean hashes anything: it is a label: what it is worth is what the hold of that sum in a sandbox is worth. -/
noncomputable def Tryz.pinned : Pinned := { name := "ytollfjfcdofbaaagreat", sum := "5c779037a3ff1f74319462f98d294a8ab7bb2ddcb65dc5f6eb1b269cca0f1aa8", checked := Tryz.checked }
namespace Rows
def none {H : Type} : Left H := { results := [], args := [] }

/-- 'weighlocklaw16.CohortNews': WHATEVER THE INPUT: true; the input reads as it did. -/
def cohortNewsSpec : ChangeSpec := { name := "cohortNews", fn := fun _ => fun
  | [d1, d2, d3] => { results := [.lit (.bool true)], args := [d1, d2, d3] }
  | _ => none }
def cohortNewsRow : OpenClaim := { program := "ytollfjfcdofbaaagreat", sum := "5c779037a3ff1f74319462f98d294a8ab7bb2ddcb65dc5f6eb1b269cca0f1aa8", func := "weighlock/weighlocklaw16.CohortNews", spec := "cohortNews", inPlace := ["sync/atomic.StoreUint32", "sync/atomic.LoadUint32"], unfollowed := true, recurses := true, apart := false }
def CohortNewsSaid : Prop := cohortNewsRow.holds Tryz.pinned (OpenSpec.ofChange cohortNewsSpec)

/-- ITS FALSE NEIGHBOUR: 'it returns false'. Refute it at one input. -/
def cohortNewsWrong : ChangeSpec := { name := "cohortNews", fn := fun _ => fun
  | [d1, d2, d3] => { results := [.lit (.bool false)], args := [d1, d2, d3] }
  | _ => none }
def CohortNewsWrongFalsely : Prop := cohortNewsRow.holds Tryz.pinned (OpenSpec.ofChange cohortNewsWrong)

/-- 'weighlocklaw16.CohortPlays': WHATEVER THE INPUT: true; the input reads as it did. -/
def cohortPlaysSpec : ChangeSpec := { name := "cohortPlays", fn := fun _ => fun
  | [d1, d2, d3] => { results := [.lit (.bool true)], args := [d1, d2, d3] }
  | _ => none }
def cohortPlaysRow : OpenClaim := { program := "ytollfjfcdofbaaagreat", sum := "5c779037a3ff1f74319462f98d294a8ab7bb2ddcb65dc5f6eb1b269cca0f1aa8", func := "weighlock/weighlocklaw16.CohortPlays", spec := "cohortPlays", inPlace := ["sync/atomic.StoreUint32", "sync/atomic.LoadUint32"], unfollowed := true, recurses := true, apart := false }
def CohortPlaysSaid : Prop := cohortPlaysRow.holds Tryz.pinned (OpenSpec.ofChange cohortPlaysSpec)

/-- ITS FALSE NEIGHBOUR: 'it returns false'. Refute it at one input. -/
def cohortPlaysWrong : ChangeSpec := { name := "cohortPlays", fn := fun _ => fun
  | [d1, d2, d3] => { results := [.lit (.bool false)], args := [d1, d2, d3] }
  | _ => none }
def CohortPlaysWrongFalsely : Prop := cohortPlaysRow.holds Tryz.pinned (OpenSpec.ofChange cohortPlaysWrong)

/-- 'weighlocklaw17.BuildApart': WHATEVER THE INPUT: true; the input reads as it did. -/
def buildApartSpec : ChangeSpec := { name := "buildApart", fn := fun _ => fun
  | [d1, d2] => { results := [.lit (.bool true)], args := [d1, d2] }
  | _ => none }
def buildApartRow : OpenClaim := { program := "ytollfjfcdofbaaagreat", sum := "5c779037a3ff1f74319462f98d294a8ab7bb2ddcb65dc5f6eb1b269cca0f1aa8", func := "weighlock/weighlocklaw17.BuildApart", spec := "buildApart", inPlace := ["sync/atomic.StoreUint32", "sync/atomic.LoadUint32"], unfollowed := true, recurses := true, apart := false }
def BuildApartSaid : Prop := buildApartRow.holds Tryz.pinned (OpenSpec.ofChange buildApartSpec)

/-- ITS FALSE NEIGHBOUR: 'it returns false'. Refute it at one input. -/
def buildApartWrong : ChangeSpec := { name := "buildApart", fn := fun _ => fun
  | [d1, d2] => { results := [.lit (.bool false)], args := [d1, d2] }
  | _ => none }
def BuildApartWrongFalsely : Prop := buildApartRow.holds Tryz.pinned (OpenSpec.ofChange buildApartWrong)

/-- 'weighlocklaw17.BuildOnce': WHATEVER THE INPUT: true; the input reads as it did. -/
def buildOnceSpec : ChangeSpec := { name := "buildOnce", fn := fun _ => fun
  | [d] => { results := [.lit (.bool true)], args := [d] }
  | _ => none }
def buildOnceRow : OpenClaim := { program := "ytollfjfcdofbaaagreat", sum := "5c779037a3ff1f74319462f98d294a8ab7bb2ddcb65dc5f6eb1b269cca0f1aa8", func := "weighlock/weighlocklaw17.BuildOnce", spec := "buildOnce", inPlace := ["sync/atomic.StoreUint32", "sync/atomic.LoadUint32", "(*internal/sync.Mutex).Lock", "internal/race.Disable", "sync/atomic.CompareAndSwapInt32", "internal/race.Enable", "internal/race.Acquire", "(*internal/sync.Mutex).lockSlow", "internal/sync.runtime_canSpin", "internal/sync.runtime_doSpin", "internal/sync.throw", "internal/sync.runtime_nanotime", "internal/sync.runtime_SemacquireMutex", "sync/atomic.AddInt32", "(*internal/sync.Mutex).Unlock", "internal/race.ReleaseMerge", "(*internal/sync.Mutex).unlockSlow", "internal/sync.fatal", "internal/sync.runtime_Semrelease"], unfollowed := true, recurses := true, apart := false }
def BuildOnceSaid : Prop := buildOnceRow.holds Tryz.pinned (OpenSpec.ofChange buildOnceSpec)

/-- ITS FALSE NEIGHBOUR: 'it returns false'. Refute it at one input. -/
def buildOnceWrong : ChangeSpec := { name := "buildOnce", fn := fun _ => fun
  | [d] => { results := [.lit (.bool false)], args := [d] }
  | _ => none }
def BuildOnceWrongFalsely : Prop := buildOnceRow.holds Tryz.pinned (OpenSpec.ofChange buildOnceWrong)

/-- 'weighlocklaw17.BuildPlays': WHATEVER THE INPUT: true; the input reads as it did. -/
def buildPlaysSpec : ChangeSpec := { name := "buildPlays", fn := fun _ => fun
  | [d1, d2] => { results := [.lit (.bool true)], args := [d1, d2] }
  | _ => none }
def buildPlaysRow : OpenClaim := { program := "ytollfjfcdofbaaagreat", sum := "5c779037a3ff1f74319462f98d294a8ab7bb2ddcb65dc5f6eb1b269cca0f1aa8", func := "weighlock/weighlocklaw17.BuildPlays", spec := "buildPlays", inPlace := ["sync/atomic.StoreUint32", "sync/atomic.LoadUint32"], unfollowed := true, recurses := true, apart := false }
def BuildPlaysSaid : Prop := buildPlaysRow.holds Tryz.pinned (OpenSpec.ofChange buildPlaysSpec)

/-- ITS FALSE NEIGHBOUR: 'it returns false'. Refute it at one input. -/
def buildPlaysWrong : ChangeSpec := { name := "buildPlays", fn := fun _ => fun
  | [d1, d2] => { results := [.lit (.bool false)], args := [d1, d2] }
  | _ => none }
def BuildPlaysWrongFalsely : Prop := buildPlaysRow.holds Tryz.pinned (OpenSpec.ofChange buildPlaysWrong)

/-- 'weighlocklaw18.MachineOne': WHATEVER THE INPUT: true; the input reads as it did. -/
def machineOneSpec : ChangeSpec := { name := "machineOne", fn := fun _ => fun
  | [d1, d2] => { results := [.lit (.bool true)], args := [d1, d2] }
  | _ => none }
def machineOneRow : OpenClaim := { program := "ytollfjfcdofbaaagreat", sum := "5c779037a3ff1f74319462f98d294a8ab7bb2ddcb65dc5f6eb1b269cca0f1aa8", func := "weighlock/weighlocklaw18.MachineOne", spec := "machineOne", inPlace := ["sync/atomic.StoreUint32"], unfollowed := true, recurses := true, apart := false }
def MachineOneSaid : Prop := machineOneRow.holds Tryz.pinned (OpenSpec.ofChange machineOneSpec)

/-- ITS FALSE NEIGHBOUR: 'it returns false'. Refute it at one input. -/
def machineOneWrong : ChangeSpec := { name := "machineOne", fn := fun _ => fun
  | [d1, d2] => { results := [.lit (.bool false)], args := [d1, d2] }
  | _ => none }
def MachineOneWrongFalsely : Prop := machineOneRow.holds Tryz.pinned (OpenSpec.ofChange machineOneWrong)

/-- 'weighlocklaw18.MachineClock': WHATEVER THE INPUT: true; the input reads as it did. -/
def machineClockSpec : ChangeSpec := { name := "machineClock", fn := fun _ => fun
  | [d1, d2] => { results := [.lit (.bool true)], args := [d1, d2] }
  | _ => none }
def machineClockRow : OpenClaim := { program := "ytollfjfcdofbaaagreat", sum := "5c779037a3ff1f74319462f98d294a8ab7bb2ddcb65dc5f6eb1b269cca0f1aa8", func := "weighlock/weighlocklaw18.MachineClock", spec := "machineClock", inPlace := ["sync/atomic.StoreUint32"], unfollowed := true, recurses := true, apart := false }
def MachineClockSaid : Prop := machineClockRow.holds Tryz.pinned (OpenSpec.ofChange machineClockSpec)

/-- ITS FALSE NEIGHBOUR: 'it returns false'. Refute it at one input. -/
def machineClockWrong : ChangeSpec := { name := "machineClock", fn := fun _ => fun
  | [d1, d2] => { results := [.lit (.bool false)], args := [d1, d2] }
  | _ => none }
def MachineClockWrongFalsely : Prop := machineClockRow.holds Tryz.pinned (OpenSpec.ofChange machineClockWrong)

/-- 'weighlocklaw18.MachineNews': WHATEVER THE INPUT: true; the input reads as it did. -/
def machineNewsSpec : ChangeSpec := { name := "machineNews", fn := fun _ => fun
  | [d] => { results := [.lit (.bool true)], args := [d] }
  | _ => none }
def machineNewsRow : OpenClaim := { program := "ytollfjfcdofbaaagreat", sum := "5c779037a3ff1f74319462f98d294a8ab7bb2ddcb65dc5f6eb1b269cca0f1aa8", func := "weighlock/weighlocklaw18.MachineNews", spec := "machineNews", inPlace := ["sync/atomic.StoreUint32"], unfollowed := true, recurses := true, apart := false }
def MachineNewsSaid : Prop := machineNewsRow.holds Tryz.pinned (OpenSpec.ofChange machineNewsSpec)

/-- ITS FALSE NEIGHBOUR: 'it returns false'. Refute it at one input. -/
def machineNewsWrong : ChangeSpec := { name := "machineNews", fn := fun _ => fun
  | [d] => { results := [.lit (.bool false)], args := [d] }
  | _ => none }
def MachineNewsWrongFalsely : Prop := machineNewsRow.holds Tryz.pinned (OpenSpec.ofChange machineNewsWrong)

/-- 'weighlocklaw18.MachineIdle': WHATEVER THE INPUT: true; the input reads as it did. -/
def machineIdleSpec : ChangeSpec := { name := "machineIdle", fn := fun _ => fun
  | [d1, d2] => { results := [.lit (.bool true)], args := [d1, d2] }
  | _ => none }
def machineIdleRow : OpenClaim := { program := "ytollfjfcdofbaaagreat", sum := "5c779037a3ff1f74319462f98d294a8ab7bb2ddcb65dc5f6eb1b269cca0f1aa8", func := "weighlock/weighlocklaw18.MachineIdle", spec := "machineIdle", inPlace := ["sync/atomic.StoreUint32", "sync/atomic.LoadUint32"], unfollowed := true, recurses := true, apart := false }
def MachineIdleSaid : Prop := machineIdleRow.holds Tryz.pinned (OpenSpec.ofChange machineIdleSpec)

/-- ITS FALSE NEIGHBOUR: 'it returns false'. Refute it at one input. -/
def machineIdleWrong : ChangeSpec := { name := "machineIdle", fn := fun _ => fun
  | [d1, d2] => { results := [.lit (.bool false)], args := [d1, d2] }
  | _ => none }
def MachineIdleWrongFalsely : Prop := machineIdleRow.holds Tryz.pinned (OpenSpec.ofChange machineIdleWrong)

/-- 'weighlocklaw18.MachineParts': WHATEVER THE INPUT: true; the input reads as it did. -/
def machinePartsSpec : ChangeSpec := { name := "machineParts", fn := fun _ => fun
  | [d1, d2, d3] => { results := [.lit (.bool true)], args := [d1, d2, d3] }
  | _ => none }
def machinePartsRow : OpenClaim := { program := "ytollfjfcdofbaaagreat", sum := "5c779037a3ff1f74319462f98d294a8ab7bb2ddcb65dc5f6eb1b269cca0f1aa8", func := "weighlock/weighlocklaw18.MachineParts", spec := "machineParts", inPlace := ["sync/atomic.StoreUint32", "sync/atomic.LoadUint32"], unfollowed := true, recurses := true, apart := false }
def MachinePartsSaid : Prop := machinePartsRow.holds Tryz.pinned (OpenSpec.ofChange machinePartsSpec)

/-- ITS FALSE NEIGHBOUR: 'it returns false'. Refute it at one input. -/
def machinePartsWrong : ChangeSpec := { name := "machineParts", fn := fun _ => fun
  | [d1, d2, d3] => { results := [.lit (.bool false)], args := [d1, d2, d3] }
  | _ => none }
def MachinePartsWrongFalsely : Prop := machinePartsRow.holds Tryz.pinned (OpenSpec.ofChange machinePartsWrong)

/-- 'weighlocklaw18.MachinePlays': WHATEVER THE INPUT: true; the input reads as it did. -/
def machinePlaysSpec : ChangeSpec := { name := "machinePlays", fn := fun _ => fun
  | [d1, d2] => { results := [.lit (.bool true)], args := [d1, d2] }
  | _ => none }
def machinePlaysRow : OpenClaim := { program := "ytollfjfcdofbaaagreat", sum := "5c779037a3ff1f74319462f98d294a8ab7bb2ddcb65dc5f6eb1b269cca0f1aa8", func := "weighlock/weighlocklaw18.MachinePlays", spec := "machinePlays", inPlace := ["sync/atomic.StoreUint32", "sync/atomic.LoadUint32"], unfollowed := true, recurses := true, apart := false }
def MachinePlaysSaid : Prop := machinePlaysRow.holds Tryz.pinned (OpenSpec.ofChange machinePlaysSpec)

/-- ITS FALSE NEIGHBOUR: 'it returns false'. Refute it at one input. -/
def machinePlaysWrong : ChangeSpec := { name := "machinePlays", fn := fun _ => fun
  | [d1, d2] => { results := [.lit (.bool false)], args := [d1, d2] }
  | _ => none }
def MachinePlaysWrongFalsely : Prop := machinePlaysRow.holds Tryz.pinned (OpenSpec.ofChange machinePlaysWrong)

/-- 'weighlocklaw21.WitnessDepth': WHATEVER THE INPUT: true; the input reads as it did. -/
def witnessDepthSpec : ChangeSpec := { name := "witnessDepth", fn := fun _ => fun
  | [d1, d2] => { results := [.lit (.bool true)], args := [d1, d2] }
  | _ => none }
def witnessDepthRow : OpenClaim := { program := "ytollfjfcdofbaaagreat", sum := "5c779037a3ff1f74319462f98d294a8ab7bb2ddcb65dc5f6eb1b269cca0f1aa8", func := "weighlock/weighlocklaw21.WitnessDepth", spec := "witnessDepth", inPlace := ["sync/atomic.StoreUint32"], unfollowed := true, recurses := true, apart := false }
def WitnessDepthSaid : Prop := witnessDepthRow.holds Tryz.pinned (OpenSpec.ofChange witnessDepthSpec)

/-- ITS FALSE NEIGHBOUR: 'it returns false'. Refute it at one input. -/
def witnessDepthWrong : ChangeSpec := { name := "witnessDepth", fn := fun _ => fun
  | [d1, d2] => { results := [.lit (.bool false)], args := [d1, d2] }
  | _ => none }
def WitnessDepthWrongFalsely : Prop := witnessDepthRow.holds Tryz.pinned (OpenSpec.ofChange witnessDepthWrong)

/-- 'weighlocklaw21.WitnessNobody': WHATEVER THE INPUT: true; the input reads as it did. -/
def witnessNobodySpec : ChangeSpec := { name := "witnessNobody", fn := fun _ => fun
  | [d1, d2] => { results := [.lit (.bool true)], args := [d1, d2] }
  | _ => none }
def witnessNobodyRow : OpenClaim := { program := "ytollfjfcdofbaaagreat", sum := "5c779037a3ff1f74319462f98d294a8ab7bb2ddcb65dc5f6eb1b269cca0f1aa8", func := "weighlock/weighlocklaw21.WitnessNobody", spec := "witnessNobody", inPlace := ["sync/atomic.StoreUint32"], unfollowed := true, recurses := true, apart := false }
def WitnessNobodySaid : Prop := witnessNobodyRow.holds Tryz.pinned (OpenSpec.ofChange witnessNobodySpec)

/-- ITS FALSE NEIGHBOUR: 'it returns false'. Refute it at one input. -/
def witnessNobodyWrong : ChangeSpec := { name := "witnessNobody", fn := fun _ => fun
  | [d1, d2] => { results := [.lit (.bool false)], args := [d1, d2] }
  | _ => none }
def WitnessNobodyWrongFalsely : Prop := witnessNobodyRow.holds Tryz.pinned (OpenSpec.ofChange witnessNobodyWrong)

/-- 'weighlocklaw28.MissFew': WHATEVER THE INPUT: true; the input reads as it did. -/
def missFewSpec : ChangeSpec := { name := "missFew", fn := fun _ => fun
  | [d1, d2] => { results := [.lit (.bool true)], args := [d1, d2] }
  | _ => none }
def missFewRow : OpenClaim := { program := "ytollfjfcdofbaaagreat", sum := "5c779037a3ff1f74319462f98d294a8ab7bb2ddcb65dc5f6eb1b269cca0f1aa8", func := "weighlock/weighlocklaw28.MissFew", spec := "missFew", inPlace := ["sync/atomic.StoreUint32"], unfollowed := true, recurses := true, apart := false }
def MissFewSaid : Prop := missFewRow.holds Tryz.pinned (OpenSpec.ofChange missFewSpec)

/-- ITS FALSE NEIGHBOUR: 'it returns false'. Refute it at one input. -/
def missFewWrong : ChangeSpec := { name := "missFew", fn := fun _ => fun
  | [d1, d2] => { results := [.lit (.bool false)], args := [d1, d2] }
  | _ => none }
def MissFewWrongFalsely : Prop := missFewRow.holds Tryz.pinned (OpenSpec.ofChange missFewWrong)

/-- 'weighlocklaw19.FifoMachine': WHATEVER THE INPUT: true; the input reads as it did. -/
def fifoMachineSpec : ChangeSpec := { name := "fifoMachine", fn := fun _ => fun
  | [d1, d2] => { results := [.lit (.bool true)], args := [d1, d2] }
  | _ => none }
def fifoMachineRow : OpenClaim := { program := "ytollfjfcdofbaaagreat", sum := "5c779037a3ff1f74319462f98d294a8ab7bb2ddcb65dc5f6eb1b269cca0f1aa8", func := "weighlock/weighlocklaw19.FifoMachine", spec := "fifoMachine", inPlace := ["sync/atomic.StoreUint32"], unfollowed := true, recurses := true, apart := false }
def FifoMachineSaid : Prop := fifoMachineRow.holds Tryz.pinned (OpenSpec.ofChange fifoMachineSpec)

/-- ITS FALSE NEIGHBOUR: 'it returns false'. Refute it at one input. -/
def fifoMachineWrong : ChangeSpec := { name := "fifoMachine", fn := fun _ => fun
  | [d1, d2] => { results := [.lit (.bool false)], args := [d1, d2] }
  | _ => none }
def FifoMachineWrongFalsely : Prop := fifoMachineRow.holds Tryz.pinned (OpenSpec.ofChange fifoMachineWrong)

/-- 'weighlocklaw28.MissTells': WHATEVER THE INPUT: true; the input reads as it did. -/
def missTellsSpec : ChangeSpec := { name := "missTells", fn := fun _ => fun
  | [d1, d2] => { results := [.lit (.bool true)], args := [d1, d2] }
  | _ => none }
def missTellsRow : OpenClaim := { program := "ytollfjfcdofbaaagreat", sum := "5c779037a3ff1f74319462f98d294a8ab7bb2ddcb65dc5f6eb1b269cca0f1aa8", func := "weighlock/weighlocklaw28.MissTells", spec := "missTells", inPlace := ["sync/atomic.StoreUint32"], unfollowed := true, recurses := true, apart := false }
def MissTellsSaid : Prop := missTellsRow.holds Tryz.pinned (OpenSpec.ofChange missTellsSpec)

/-- ITS FALSE NEIGHBOUR: 'it returns false'. Refute it at one input. -/
def missTellsWrong : ChangeSpec := { name := "missTells", fn := fun _ => fun
  | [d1, d2] => { results := [.lit (.bool false)], args := [d1, d2] }
  | _ => none }
def MissTellsWrongFalsely : Prop := missTellsRow.holds Tryz.pinned (OpenSpec.ofChange missTellsWrong)

/-- 'weighlocklaw28.MissSums': WHATEVER THE INPUT: true; the input reads as it did. -/
def missSumsSpec : ChangeSpec := { name := "missSums", fn := fun _ => fun
  | [d1, d2] => { results := [.lit (.bool true)], args := [d1, d2] }
  | _ => none }
def missSumsRow : OpenClaim := { program := "ytollfjfcdofbaaagreat", sum := "5c779037a3ff1f74319462f98d294a8ab7bb2ddcb65dc5f6eb1b269cca0f1aa8", func := "weighlock/weighlocklaw28.MissSums", spec := "missSums", inPlace := ["sync/atomic.StoreUint32"], unfollowed := true, recurses := true, apart := false }
def MissSumsSaid : Prop := missSumsRow.holds Tryz.pinned (OpenSpec.ofChange missSumsSpec)

/-- ITS FALSE NEIGHBOUR: 'it returns false'. Refute it at one input. -/
def missSumsWrong : ChangeSpec := { name := "missSums", fn := fun _ => fun
  | [d1, d2] => { results := [.lit (.bool false)], args := [d1, d2] }
  | _ => none }
def MissSumsWrongFalsely : Prop := missSumsRow.holds Tryz.pinned (OpenSpec.ofChange missSumsWrong)

/-- 'weighlocklaw20.TwoMachine': WHATEVER THE INPUT: true; the input reads as it did. -/
def twoMachineSpec : ChangeSpec := { name := "twoMachine", fn := fun _ => fun
  | [d1, d2] => { results := [.lit (.bool true)], args := [d1, d2] }
  | _ => none }
def twoMachineRow : OpenClaim := { program := "ytollfjfcdofbaaagreat", sum := "5c779037a3ff1f74319462f98d294a8ab7bb2ddcb65dc5f6eb1b269cca0f1aa8", func := "weighlock/weighlocklaw20.TwoMachine", spec := "twoMachine", inPlace := ["sync/atomic.StoreUint32"], unfollowed := true, recurses := true, apart := false }
def TwoMachineSaid : Prop := twoMachineRow.holds Tryz.pinned (OpenSpec.ofChange twoMachineSpec)

/-- ITS FALSE NEIGHBOUR: 'it returns false'. Refute it at one input. -/
def twoMachineWrong : ChangeSpec := { name := "twoMachine", fn := fun _ => fun
  | [d1, d2] => { results := [.lit (.bool false)], args := [d1, d2] }
  | _ => none }
def TwoMachineWrongFalsely : Prop := twoMachineRow.holds Tryz.pinned (OpenSpec.ofChange twoMachineWrong)

/-- 'weighlocklaw29.WeaveWays': WHATEVER THE INPUT: true; the input reads as it did. -/
def weaveWaysSpec : ChangeSpec := { name := "weaveWays", fn := fun _ => fun
  | [d1, d2, d3] => { results := [.lit (.bool true)], args := [d1, d2, d3] }
  | _ => none }
def weaveWaysRow : OpenClaim := { program := "ytollfjfcdofbaaagreat", sum := "5c779037a3ff1f74319462f98d294a8ab7bb2ddcb65dc5f6eb1b269cca0f1aa8", func := "weighlock/weighlocklaw29.WeaveWays", spec := "weaveWays", inPlace := ["sync/atomic.StoreUint32"], unfollowed := true, recurses := true, apart := false }
def WeaveWaysSaid : Prop := weaveWaysRow.holds Tryz.pinned (OpenSpec.ofChange weaveWaysSpec)

/-- ITS FALSE NEIGHBOUR: 'it returns false'. Refute it at one input. -/
def weaveWaysWrong : ChangeSpec := { name := "weaveWays", fn := fun _ => fun
  | [d1, d2, d3] => { results := [.lit (.bool false)], args := [d1, d2, d3] }
  | _ => none }
def WeaveWaysWrongFalsely : Prop := weaveWaysRow.holds Tryz.pinned (OpenSpec.ofChange weaveWaysWrong)

/- THE SECOND FORM. 'bulk': how many values and letters a reading holds, each counted each time it is reached (what is shared counts as often as it is met; a slice's spare places count too). A statement '..UptoSaid' is the law's where the arguments, and the package variables that the reading takes, are together of bulk at most 1048576: NARROWER than '..Said'. Prove '..Said' where nothing that the law and all that it calls make is longer than what came in: it says more and counts as full. Else prove '..UptoSaid'. A law counts once. -/
mutual
def uptoBulk {H : Type} : DataW H → Nat
  | .lit (.string bytes) => bytes.length + 1
  | .lit _ => 1
  | .nil => 1
  | .ptr d => uptoBulk d + 1
  | .slice elems spare => uptoBulkAll elems + uptoBulkAll spare + 1
  | .agg parts => uptoBulkAll parts + 1
  | .iface _ d => uptoBulk d + 1
  | .map entries => uptoBulkEntries entries + 1
  | .held _ => 1
def uptoBulkAll {H : Type} : List (DataW H) → Nat
  | [] => 0
  | d :: r => uptoBulk d + uptoBulkAll r
def uptoBulkEntries {H : Type} : List (Lit × DataW H) → Nat
  | [] => 0
  | x :: r => uptoBulkEntry x + uptoBulkEntries r
def uptoBulkEntry {H : Type} : Lit × DataW H → Nat
  | (.string bytes, d) => bytes.length + uptoBulk d + 1
  | (_, d) => uptoBulk d + 1
 end
def uptoSmall : (H : Type) → List (DataW H) → Bool := fun _ ds => decide (uptoBulkAll ds ≤ 1048576)
def OpenSpec.upto (s : _root_.Go.ChangeSpec) : _root_.Go.OpenSpec := { _root_.Go.OpenSpec.ofChange s with cond := some uptoSmall }

/-- 'weighlocklaw16.CohortNews', WHERE WHAT IT READS IS OF BULK AT MOST 1048576: true; the input reads as it did. -/
def cohortNewsUptoRow : OpenClaim := { program := "ytollfjfcdofbaaagreat", sum := "5c779037a3ff1f74319462f98d294a8ab7bb2ddcb65dc5f6eb1b269cca0f1aa8", func := "weighlock/weighlocklaw16.CohortNews", spec := "cohortNews", inPlace := ["sync/atomic.StoreUint32", "sync/atomic.LoadUint32"], unfollowed := true, recurses := true, apart := false, narrowed := true }
def CohortNewsUptoSaid : Prop := cohortNewsUptoRow.holds Tryz.pinned (OpenSpec.upto cohortNewsSpec)

/-- 'weighlocklaw16.CohortPlays', WHERE WHAT IT READS IS OF BULK AT MOST 1048576: true; the input reads as it did. -/
def cohortPlaysUptoRow : OpenClaim := { program := "ytollfjfcdofbaaagreat", sum := "5c779037a3ff1f74319462f98d294a8ab7bb2ddcb65dc5f6eb1b269cca0f1aa8", func := "weighlock/weighlocklaw16.CohortPlays", spec := "cohortPlays", inPlace := ["sync/atomic.StoreUint32", "sync/atomic.LoadUint32"], unfollowed := true, recurses := true, apart := false, narrowed := true }
def CohortPlaysUptoSaid : Prop := cohortPlaysUptoRow.holds Tryz.pinned (OpenSpec.upto cohortPlaysSpec)

/-- 'weighlocklaw17.BuildApart', WHERE WHAT IT READS IS OF BULK AT MOST 1048576: true; the input reads as it did. -/
def buildApartUptoRow : OpenClaim := { program := "ytollfjfcdofbaaagreat", sum := "5c779037a3ff1f74319462f98d294a8ab7bb2ddcb65dc5f6eb1b269cca0f1aa8", func := "weighlock/weighlocklaw17.BuildApart", spec := "buildApart", inPlace := ["sync/atomic.StoreUint32", "sync/atomic.LoadUint32"], unfollowed := true, recurses := true, apart := false, narrowed := true }
def BuildApartUptoSaid : Prop := buildApartUptoRow.holds Tryz.pinned (OpenSpec.upto buildApartSpec)

/-- 'weighlocklaw17.BuildOnce', WHERE WHAT IT READS IS OF BULK AT MOST 1048576: true; the input reads as it did. -/
def buildOnceUptoRow : OpenClaim := { program := "ytollfjfcdofbaaagreat", sum := "5c779037a3ff1f74319462f98d294a8ab7bb2ddcb65dc5f6eb1b269cca0f1aa8", func := "weighlock/weighlocklaw17.BuildOnce", spec := "buildOnce", inPlace := ["sync/atomic.StoreUint32", "sync/atomic.LoadUint32", "(*internal/sync.Mutex).Lock", "internal/race.Disable", "sync/atomic.CompareAndSwapInt32", "internal/race.Enable", "internal/race.Acquire", "(*internal/sync.Mutex).lockSlow", "internal/sync.runtime_canSpin", "internal/sync.runtime_doSpin", "internal/sync.throw", "internal/sync.runtime_nanotime", "internal/sync.runtime_SemacquireMutex", "sync/atomic.AddInt32", "(*internal/sync.Mutex).Unlock", "internal/race.ReleaseMerge", "(*internal/sync.Mutex).unlockSlow", "internal/sync.fatal", "internal/sync.runtime_Semrelease"], unfollowed := true, recurses := true, apart := false, narrowed := true }
def BuildOnceUptoSaid : Prop := buildOnceUptoRow.holds Tryz.pinned (OpenSpec.upto buildOnceSpec)

/-- 'weighlocklaw17.BuildPlays', WHERE WHAT IT READS IS OF BULK AT MOST 1048576: true; the input reads as it did. -/
def buildPlaysUptoRow : OpenClaim := { program := "ytollfjfcdofbaaagreat", sum := "5c779037a3ff1f74319462f98d294a8ab7bb2ddcb65dc5f6eb1b269cca0f1aa8", func := "weighlock/weighlocklaw17.BuildPlays", spec := "buildPlays", inPlace := ["sync/atomic.StoreUint32", "sync/atomic.LoadUint32"], unfollowed := true, recurses := true, apart := false, narrowed := true }
def BuildPlaysUptoSaid : Prop := buildPlaysUptoRow.holds Tryz.pinned (OpenSpec.upto buildPlaysSpec)

/-- 'weighlocklaw18.MachineOne', WHERE WHAT IT READS IS OF BULK AT MOST 1048576: true; the input reads as it did. -/
def machineOneUptoRow : OpenClaim := { program := "ytollfjfcdofbaaagreat", sum := "5c779037a3ff1f74319462f98d294a8ab7bb2ddcb65dc5f6eb1b269cca0f1aa8", func := "weighlock/weighlocklaw18.MachineOne", spec := "machineOne", inPlace := ["sync/atomic.StoreUint32"], unfollowed := true, recurses := true, apart := false, narrowed := true }
def MachineOneUptoSaid : Prop := machineOneUptoRow.holds Tryz.pinned (OpenSpec.upto machineOneSpec)

/-- 'weighlocklaw18.MachineClock', WHERE WHAT IT READS IS OF BULK AT MOST 1048576: true; the input reads as it did. -/
def machineClockUptoRow : OpenClaim := { program := "ytollfjfcdofbaaagreat", sum := "5c779037a3ff1f74319462f98d294a8ab7bb2ddcb65dc5f6eb1b269cca0f1aa8", func := "weighlock/weighlocklaw18.MachineClock", spec := "machineClock", inPlace := ["sync/atomic.StoreUint32"], unfollowed := true, recurses := true, apart := false, narrowed := true }
def MachineClockUptoSaid : Prop := machineClockUptoRow.holds Tryz.pinned (OpenSpec.upto machineClockSpec)

/-- 'weighlocklaw18.MachineNews', WHERE WHAT IT READS IS OF BULK AT MOST 1048576: true; the input reads as it did. -/
def machineNewsUptoRow : OpenClaim := { program := "ytollfjfcdofbaaagreat", sum := "5c779037a3ff1f74319462f98d294a8ab7bb2ddcb65dc5f6eb1b269cca0f1aa8", func := "weighlock/weighlocklaw18.MachineNews", spec := "machineNews", inPlace := ["sync/atomic.StoreUint32"], unfollowed := true, recurses := true, apart := false, narrowed := true }
def MachineNewsUptoSaid : Prop := machineNewsUptoRow.holds Tryz.pinned (OpenSpec.upto machineNewsSpec)

/-- 'weighlocklaw18.MachineIdle', WHERE WHAT IT READS IS OF BULK AT MOST 1048576: true; the input reads as it did. -/
def machineIdleUptoRow : OpenClaim := { program := "ytollfjfcdofbaaagreat", sum := "5c779037a3ff1f74319462f98d294a8ab7bb2ddcb65dc5f6eb1b269cca0f1aa8", func := "weighlock/weighlocklaw18.MachineIdle", spec := "machineIdle", inPlace := ["sync/atomic.StoreUint32", "sync/atomic.LoadUint32"], unfollowed := true, recurses := true, apart := false, narrowed := true }
def MachineIdleUptoSaid : Prop := machineIdleUptoRow.holds Tryz.pinned (OpenSpec.upto machineIdleSpec)

/-- 'weighlocklaw18.MachineParts', WHERE WHAT IT READS IS OF BULK AT MOST 1048576: true; the input reads as it did. -/
def machinePartsUptoRow : OpenClaim := { program := "ytollfjfcdofbaaagreat", sum := "5c779037a3ff1f74319462f98d294a8ab7bb2ddcb65dc5f6eb1b269cca0f1aa8", func := "weighlock/weighlocklaw18.MachineParts", spec := "machineParts", inPlace := ["sync/atomic.StoreUint32", "sync/atomic.LoadUint32"], unfollowed := true, recurses := true, apart := false, narrowed := true }
def MachinePartsUptoSaid : Prop := machinePartsUptoRow.holds Tryz.pinned (OpenSpec.upto machinePartsSpec)

/-- 'weighlocklaw18.MachinePlays', WHERE WHAT IT READS IS OF BULK AT MOST 1048576: true; the input reads as it did. -/
def machinePlaysUptoRow : OpenClaim := { program := "ytollfjfcdofbaaagreat", sum := "5c779037a3ff1f74319462f98d294a8ab7bb2ddcb65dc5f6eb1b269cca0f1aa8", func := "weighlock/weighlocklaw18.MachinePlays", spec := "machinePlays", inPlace := ["sync/atomic.StoreUint32", "sync/atomic.LoadUint32"], unfollowed := true, recurses := true, apart := false, narrowed := true }
def MachinePlaysUptoSaid : Prop := machinePlaysUptoRow.holds Tryz.pinned (OpenSpec.upto machinePlaysSpec)

/-- 'weighlocklaw21.WitnessDepth', WHERE WHAT IT READS IS OF BULK AT MOST 1048576: true; the input reads as it did. -/
def witnessDepthUptoRow : OpenClaim := { program := "ytollfjfcdofbaaagreat", sum := "5c779037a3ff1f74319462f98d294a8ab7bb2ddcb65dc5f6eb1b269cca0f1aa8", func := "weighlock/weighlocklaw21.WitnessDepth", spec := "witnessDepth", inPlace := ["sync/atomic.StoreUint32"], unfollowed := true, recurses := true, apart := false, narrowed := true }
def WitnessDepthUptoSaid : Prop := witnessDepthUptoRow.holds Tryz.pinned (OpenSpec.upto witnessDepthSpec)

/-- 'weighlocklaw21.WitnessNobody', WHERE WHAT IT READS IS OF BULK AT MOST 1048576: true; the input reads as it did. -/
def witnessNobodyUptoRow : OpenClaim := { program := "ytollfjfcdofbaaagreat", sum := "5c779037a3ff1f74319462f98d294a8ab7bb2ddcb65dc5f6eb1b269cca0f1aa8", func := "weighlock/weighlocklaw21.WitnessNobody", spec := "witnessNobody", inPlace := ["sync/atomic.StoreUint32"], unfollowed := true, recurses := true, apart := false, narrowed := true }
def WitnessNobodyUptoSaid : Prop := witnessNobodyUptoRow.holds Tryz.pinned (OpenSpec.upto witnessNobodySpec)

/-- 'weighlocklaw28.MissFew', WHERE WHAT IT READS IS OF BULK AT MOST 1048576: true; the input reads as it did. -/
def missFewUptoRow : OpenClaim := { program := "ytollfjfcdofbaaagreat", sum := "5c779037a3ff1f74319462f98d294a8ab7bb2ddcb65dc5f6eb1b269cca0f1aa8", func := "weighlock/weighlocklaw28.MissFew", spec := "missFew", inPlace := ["sync/atomic.StoreUint32"], unfollowed := true, recurses := true, apart := false, narrowed := true }
def MissFewUptoSaid : Prop := missFewUptoRow.holds Tryz.pinned (OpenSpec.upto missFewSpec)

/-- 'weighlocklaw19.FifoMachine', WHERE WHAT IT READS IS OF BULK AT MOST 1048576: true; the input reads as it did. -/
def fifoMachineUptoRow : OpenClaim := { program := "ytollfjfcdofbaaagreat", sum := "5c779037a3ff1f74319462f98d294a8ab7bb2ddcb65dc5f6eb1b269cca0f1aa8", func := "weighlock/weighlocklaw19.FifoMachine", spec := "fifoMachine", inPlace := ["sync/atomic.StoreUint32"], unfollowed := true, recurses := true, apart := false, narrowed := true }
def FifoMachineUptoSaid : Prop := fifoMachineUptoRow.holds Tryz.pinned (OpenSpec.upto fifoMachineSpec)

/-- 'weighlocklaw28.MissTells', WHERE WHAT IT READS IS OF BULK AT MOST 1048576: true; the input reads as it did. -/
def missTellsUptoRow : OpenClaim := { program := "ytollfjfcdofbaaagreat", sum := "5c779037a3ff1f74319462f98d294a8ab7bb2ddcb65dc5f6eb1b269cca0f1aa8", func := "weighlock/weighlocklaw28.MissTells", spec := "missTells", inPlace := ["sync/atomic.StoreUint32"], unfollowed := true, recurses := true, apart := false, narrowed := true }
def MissTellsUptoSaid : Prop := missTellsUptoRow.holds Tryz.pinned (OpenSpec.upto missTellsSpec)

/-- 'weighlocklaw28.MissSums', WHERE WHAT IT READS IS OF BULK AT MOST 1048576: true; the input reads as it did. -/
def missSumsUptoRow : OpenClaim := { program := "ytollfjfcdofbaaagreat", sum := "5c779037a3ff1f74319462f98d294a8ab7bb2ddcb65dc5f6eb1b269cca0f1aa8", func := "weighlock/weighlocklaw28.MissSums", spec := "missSums", inPlace := ["sync/atomic.StoreUint32"], unfollowed := true, recurses := true, apart := false, narrowed := true }
def MissSumsUptoSaid : Prop := missSumsUptoRow.holds Tryz.pinned (OpenSpec.upto missSumsSpec)

/-- 'weighlocklaw20.TwoMachine', WHERE WHAT IT READS IS OF BULK AT MOST 1048576: true; the input reads as it did. -/
def twoMachineUptoRow : OpenClaim := { program := "ytollfjfcdofbaaagreat", sum := "5c779037a3ff1f74319462f98d294a8ab7bb2ddcb65dc5f6eb1b269cca0f1aa8", func := "weighlock/weighlocklaw20.TwoMachine", spec := "twoMachine", inPlace := ["sync/atomic.StoreUint32"], unfollowed := true, recurses := true, apart := false, narrowed := true }
def TwoMachineUptoSaid : Prop := twoMachineUptoRow.holds Tryz.pinned (OpenSpec.upto twoMachineSpec)

/-- 'weighlocklaw29.WeaveWays', WHERE WHAT IT READS IS OF BULK AT MOST 1048576: true; the input reads as it did. -/
def weaveWaysUptoRow : OpenClaim := { program := "ytollfjfcdofbaaagreat", sum := "5c779037a3ff1f74319462f98d294a8ab7bb2ddcb65dc5f6eb1b269cca0f1aa8", func := "weighlock/weighlocklaw29.WeaveWays", spec := "weaveWays", inPlace := ["sync/atomic.StoreUint32"], unfollowed := true, recurses := true, apart := false, narrowed := true }
def WeaveWaysUptoSaid : Prop := weaveWaysUptoRow.holds Tryz.pinned (OpenSpec.upto weaveWaysSpec)

end Rows
end Go.Proofs.YtollfjfcdofbaaaGreat
