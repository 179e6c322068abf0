/- Under which numbers the program holds the lock's functions and types. No conditions. -/
import Derived.Test.YthooacpfmjpdmaaGreatDoorOOff
import Derived.Conc.MuLone
import Derived.WalkKit
namespace Go.Proofs.YthooacpfmjpdmaaGreatDoor
open Go.RowKit
abbrev muLink : Go.Conc.Locks.MuLink := { lock := 59, unlock := 60, ilock := 90, iunlock := 91, lockSlow := 119, unlockSlow := 122, disable := 115, enable := 117, acquire := 118, relMerge := 120, cas32 := 116, add32 := 121, tMutex := 97, tIMutex := 95, tPMutex := 125, tPIMutex := 153, tPI32 := 155, tUP := 157, tNoCopy := 92, tU32 := 93 }
theorem muLib : Go.Conc.Locks.MuLib Tryz.prog muLink :=
  ⟨Tryz.func59, Tryz.func60, Tryz.func90, Tryz.func91, Tryz.func115, Tryz.func117, Tryz.func118, Tryz.func120, Tryz.func116, Tryz.func121, Tryz.underlying95, Tryz.runUnderlying95, Tryz.sizeOf95, Tryz.isAgg95, Tryz.zeroValue95, Tryz.underlying97, Tryz.runUnderlying97, Tryz.sizeOf97, Tryz.isAgg97, Tryz.zeroValue97, Tryz.underlying125, Tryz.runUnderlying125, Tryz.sizeOf125, Tryz.isAgg125, Tryz.zeroValue125, Tryz.underlying153, Tryz.runUnderlying153, Tryz.sizeOf153, Tryz.isAgg153, Tryz.zeroValue153, Tryz.underlying155, Tryz.runUnderlying155, Tryz.sizeOf155, Tryz.isAgg155, Tryz.zeroValue155, Tryz.underlying157, Tryz.runUnderlying157, Tryz.sizeOf157, Tryz.isAgg157, Tryz.zeroValue157, Tryz.underlying92, Tryz.runUnderlying92, Tryz.sizeOf92, Tryz.isAgg92, Tryz.zeroValue92, Tryz.underlying21, Tryz.runUnderlying21, Tryz.sizeOf21, Tryz.isAgg21, Tryz.zeroValue21, (by kernel_rfl)⟩
end Go.Proofs.YthooacpfmjpdmaaGreatDoor
