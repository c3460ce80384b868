/- isName at names that do not pass, and what the runs of isName ask. -/
import Derived.Test.YtnnppmcbgfadpaaGreatDoorAwake
import Derived.Test.YtnnppmcbgfadpaaGreatDoorOrc
namespace Go.Proofs.YtnnppmcbgfadpaaGreatDoor
open Go.RowKit
/-- Valid is not entered: its answer is asked for. -/
def kValid (b : Bool) (f : FuncId) : Option Value := if f = 79 then some (.bool b) else none
theorem name_bad (s : ByteArray) : opens Tryz.prog (kValid false) 242 12 #[.string s] = some (.bool false, [⟨79, #[.string s], .bool false⟩]) := by kernel_rfl
theorem kind1 : opens Tryz.prog (fun _ => none) 43 13 #[.int .i64 1] = some (.tuple #[.agg #[.int .i64 1, .int .i64 100, .func (.func 21) #[] #[]], .bool true], []) := by kernel_rfl
theorem kind2 : opens Tryz.prog (fun _ => none) 43 13 #[.int .i64 2] = some (.tuple #[.agg #[.int .i64 0, .int .i64 0, .func (.func 22) #[] #[]], .bool true], []) := by kernel_rfl
theorem kind3 : opens Tryz.prog (fun _ => none) 43 13 #[.int .i64 3] = some (.tuple #[.agg #[.int .i64 0, .int .i64 1099511627776, .func (.func 23) #[] #[]], .bool true], []) := by kernel_rfl
theorem kind4 : opens Tryz.prog (fun _ => none) 43 13 #[.int .i64 4] = some (.tuple #[.agg #[.int .i64 1, .int .i64 100, .func (.func 24) #[] #[]], .bool true], []) := by kernel_rfl
end Go.Proofs.YtnnppmcbgfadpaaGreatDoor
