/- Facts of the table of types, for the abstract machine. Conditions: none. -/
import Derived.Test.YtpbjbnghcbcdiaaDoorAm11
import Derived.Test.YtpbjbnghcbcdiaaDoorProg
namespace Go.Proofs.YtpbjbnghcbcdiaaDoor.AM
open Go
theorem mixed : Tryd.prog.follows .mixedOrders = true := by kernel_rfl
theorem uU8 : Tryd.prog.underlying 5 = some (.int .u8) := by kernel_rfl
theorem uU32 : Tryd.prog.underlying 33 = some (.int .u32) := by kernel_rfl
theorem uI : Tryd.prog.underlying 3 = some (.int .i64) := by kernel_rfl
theorem sU8 : (Tryd.prog.underlying 5).isSome = true := by kernel_rfl
theorem sU32 : (Tryd.prog.underlying 33).isSome = true := by kernel_rfl
theorem sI : (Tryd.prog.underlying 3).isSome = true := by kernel_rfl
theorem uStr : Tryd.prog.underlying 9 = some .string := by kernel_rfl
theorem uBs : Tryd.prog.underlying 22 = some (.slice 5) := by kernel_rfl
theorem tU8 : TI Tryd.prog 5 false 1 (.int .u8 0) 1 := ⟨by kernel_rfl, by kernel_rfl, by kernel_rfl, by decide, by decide⟩
theorem tU32 : TI Tryd.prog 33 false 1 (.int .u32 0) 4 := ⟨by kernel_rfl, by kernel_rfl, by kernel_rfl, by decide, by decide⟩
theorem tCode : TI Tryd.prog 52 false 1 (.int .i64 0) 8 := ⟨by kernel_rfl, by kernel_rfl, by kernel_rfl, by decide, by decide⟩
theorem uErr : Tryd.prog.underlying 25 = some (.interface (Tryd.prog.methodsAt 25)) := by kernel_rfl
theorem cCode : Tryd.prog.concrete 52 = true := by kernel_rfl
theorem tI : TI Tryd.prog 3 false 1 (.int .i64 0) 8 := ⟨by kernel_rfl, by kernel_rfl, by kernel_rfl, by decide, by decide⟩
end Go.Proofs.YtpbjbnghcbcdiaaDoor.AM
