/-
  Under which numbers this translation holds sync.Mutex.
-/
import Derived.Test.YtpblaclhfcomeaaProg
import Derived.Conc.RwLib
import Derived.Conc.MuData
import Derived.KernelRfl
namespace Go.Proofs
abbrev Try.muLink : Go.Conc.Locks.MuLink := { lock := 32, unlock := 33, ilock := 40, iunlock := 41, lockSlow := 57, unlockSlow := 60, disable := 53, enable := 55, acquire := 56, relMerge := 58, cas32 := 54, add32 := 59, tMutex := 79, tIMutex := 77, tPMutex := 95, tPIMutex := 100, tPI32 := 102, tUP := 104, tNoCopy := 74, tU32 := 75 }
theorem Try.muLib : Go.Conc.Locks.MuLib Try.prog Try.muLink :=
  ⟨Try.func32, Try.func33, Try.func40, Try.func41, Try.func53, Try.func55, Try.func56, Try.func58, Try.func54, Try.func59, Try.underlying77, Try.runUnderlying77, Try.sizeOf77, Try.isAgg77, Try.zeroValue77, Try.underlying79, Try.runUnderlying79, Try.sizeOf79, Try.isAgg79, Try.zeroValue79, Try.underlying95, Try.runUnderlying95, Try.sizeOf95, Try.isAgg95, Try.zeroValue95, Try.underlying100, Try.runUnderlying100, Try.sizeOf100, Try.isAgg100, Try.zeroValue100, Try.underlying102, Try.runUnderlying102, Try.sizeOf102, Try.isAgg102, Try.zeroValue102, Try.underlying104, Try.runUnderlying104, Try.sizeOf104, Try.isAgg104, Try.zeroValue104, Try.underlying74, Try.runUnderlying74, Try.sizeOf74, Try.isAgg74, Try.zeroValue74, Try.underlying21, Try.runUnderlying21, Try.sizeOf21, Try.isAgg21, Try.zeroValue21, (by kernel_rfl)⟩
theorem Try.muData : Go.Conc.Locks.MuData Try.prog Try.muLink := ⟨Try.underlying75, by kernel_rfl, by kernel_rfl, by kernel_rfl, by kernel_rfl, by kernel_rfl⟩
end Go.Proofs
