/- isName at names of up to 12 bytes that pass: reckoned by the kernel with unknown bytes. -/
import Derived.Test.YtnnppmcbgfadpaaGreatDoorNmO
namespace Go.Proofs.YtnnppmcbgfadpaaGreatDoor
open Go.RowKit
set_option maxRecDepth 100000
theorem name1 (b0 : UInt8) : opens Tryz.prog (kValid true) 1941 12 #[.string ⟨⟨[b0]⟩⟩] = some (.bool true, [⟨79, #[.string ⟨⟨[b0]⟩⟩], .bool true⟩]) := by kernel_rfl
theorem name2 (b0 b1 : UInt8) : opens Tryz.prog (kValid true) 1941 12 #[.string ⟨⟨[b0, b1]⟩⟩] = some (.bool true, [⟨79, #[.string ⟨⟨[b0, b1]⟩⟩], .bool true⟩]) := by kernel_rfl
theorem name3 (b0 b1 b2 : UInt8) : opens Tryz.prog (kValid true) 1941 12 #[.string ⟨⟨[b0, b1, b2]⟩⟩] = some (.bool true, [⟨79, #[.string ⟨⟨[b0, b1, b2]⟩⟩], .bool true⟩]) := by kernel_rfl
theorem name4 (b0 b1 b2 b3 : UInt8) : opens Tryz.prog (kValid true) 1941 12 #[.string ⟨⟨[b0, b1, b2, b3]⟩⟩] = some (.bool true, [⟨79, #[.string ⟨⟨[b0, b1, b2, b3]⟩⟩], .bool true⟩]) := by kernel_rfl
theorem name5 (b0 b1 b2 b3 b4 : UInt8) : opens Tryz.prog (kValid true) 1941 12 #[.string ⟨⟨[b0, b1, b2, b3, b4]⟩⟩] = some (.bool true, [⟨79, #[.string ⟨⟨[b0, b1, b2, b3, b4]⟩⟩], .bool true⟩]) := by kernel_rfl
theorem name6 (b0 b1 b2 b3 b4 b5 : UInt8) : opens Tryz.prog (kValid true) 1941 12 #[.string ⟨⟨[b0, b1, b2, b3, b4, b5]⟩⟩] = some (.bool true, [⟨79, #[.string ⟨⟨[b0, b1, b2, b3, b4, b5]⟩⟩], .bool true⟩]) := by kernel_rfl
theorem name7 (b0 b1 b2 b3 b4 b5 b6 : UInt8) : opens Tryz.prog (kValid true) 1941 12 #[.string ⟨⟨[b0, b1, b2, b3, b4, b5, b6]⟩⟩] = some (.bool true, [⟨79, #[.string ⟨⟨[b0, b1, b2, b3, b4, b5, b6]⟩⟩], .bool true⟩]) := by kernel_rfl
theorem name8 (b0 b1 b2 b3 b4 b5 b6 b7 : UInt8) : opens Tryz.prog (kValid true) 1941 12 #[.string ⟨⟨[b0, b1, b2, b3, b4, b5, b6, b7]⟩⟩] = some (.bool true, [⟨79, #[.string ⟨⟨[b0, b1, b2, b3, b4, b5, b6, b7]⟩⟩], .bool true⟩]) := by kernel_rfl
theorem name9 (b0 b1 b2 b3 b4 b5 b6 b7 b8 : UInt8) : opens Tryz.prog (kValid true) 1941 12 #[.string ⟨⟨[b0, b1, b2, b3, b4, b5, b6, b7, b8]⟩⟩] = some (.bool true, [⟨79, #[.string ⟨⟨[b0, b1, b2, b3, b4, b5, b6, b7, b8]⟩⟩], .bool true⟩]) := by kernel_rfl
theorem name10 (b0 b1 b2 b3 b4 b5 b6 b7 b8 b9 : UInt8) : opens Tryz.prog (kValid true) 1941 12 #[.string ⟨⟨[b0, b1, b2, b3, b4, b5, b6, b7, b8, b9]⟩⟩] = some (.bool true, [⟨79, #[.string ⟨⟨[b0, b1, b2, b3, b4, b5, b6, b7, b8, b9]⟩⟩], .bool true⟩]) := by kernel_rfl
theorem name11 (b0 b1 b2 b3 b4 b5 b6 b7 b8 b9 b10 : UInt8) : opens Tryz.prog (kValid true) 1941 12 #[.string ⟨⟨[b0, b1, b2, b3, b4, b5, b6, b7, b8, b9, b10]⟩⟩] = some (.bool true, [⟨79, #[.string ⟨⟨[b0, b1, b2, b3, b4, b5, b6, b7, b8, b9, b10]⟩⟩], .bool true⟩]) := by kernel_rfl
theorem name12 (b0 b1 b2 b3 b4 b5 b6 b7 b8 b9 b10 b11 : UInt8) : opens Tryz.prog (kValid true) 1941 12 #[.string ⟨⟨[b0, b1, b2, b3, b4, b5, b6, b7, b8, b9, b10, b11]⟩⟩] = some (.bool true, [⟨79, #[.string ⟨⟨[b0, b1, b2, b3, b4, b5, b6, b7, b8, b9, b10, b11]⟩⟩], .bool true⟩]) := by kernel_rfl
end Go.Proofs.YtnnppmcbgfadpaaGreatDoor
