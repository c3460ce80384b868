/- What the row prints of the functions that the law reaches, each reckoned apart. -/
import Derived.Test.YtnnppmcbgfadpaaGreatDoorRows
import GoSem.ClaimGoes
namespace Go.Proofs.YtnnppmcbgfadpaaGreatDoor
theorem clo_place : (Rows.workerCheckRow.inPlace == Tryz.prog.inPlace 3) = true := by kernel_rfl
theorem clo_unf : Tryz.prog.unfollowed 3 = true := by kernel_rfl
theorem clo_rec : Tryz.prog.recurses 3 = true := by
  unfold Program.recurses
  rw [clo_unf]
  rfl
theorem clo_named : (Rows.workerCheckRow.named == Tryz.prog.varsNamed 3) = true := by kernel_rfl
theorem clo_goes : Tryz.prog.funcs.any Func.goes = false := by kernel_rfl
end Go.Proofs.YtnnppmcbgfadpaaGreatDoor
