/- What every card of this seat wants of the program. -/
import Derived.Test.YtjcaidbkbdkpeaaGreatDoorRow
namespace Go.Proofs.YtjcaidbkbdkpeaaGreatDoor
open Go Go.RowKit
theorem seatMain : Tryz.pinned.checked.prog.mainIs = some (true, "35db2092aedd6a5cda3015d4ad0ce36065098a63244b825d3a6b2c5ceda3a062".toList) := by kernel_rfl
theorem seatLooks : false = Tryz.pinned.checked.prog.looks [] := by kernel_rfl
theorem seatStand : ([22, 27, 5].all fun u => !Tryz.pinned.checked.prog.wantsStandIn u) = true := by kernel_rfl
end Go.Proofs.YtjcaidbkbdkpeaaGreatDoor
