/- The reference's functions of layer 60, walked: each returns what its plain Lean function computes. -/
import Derived.Test.YtglekdhdogjnoaaDoorRows
import Derived.Test.YtglekdhdogjnoaaDoorPlain
import Derived.WalkKit
import Derived.WalkSpells
import Derived.WalkLawsBesides
import Derived.BigQuiet
import Derived.Deep.QuietTactic
namespace Go.Proofs.YtglekdhdogjnoaaDoor
open Go.RowKit
theorem ret_str {a b : ByteArray} (h : a = b) : Ending.returned (.string a) = .returned (.string b) := by rw [h]
/-- A slice of ints reads as a list. -/
def IntsAt (w : World) (v : Value) (xs : List Int) : Prop :=
  ∃ a c, v = .slice a xs.length c ∧ xs.length ≤ c ∧ (∀ x ∈ xs, I64 x) ∧ (xs = [] ∨ ∃ b o, a = some ⟨b, o, none⟩ ∧ ∀ j x, xs[j]? = some x → w.cell? ⟨b, o + j, none⟩ = some (.int .i64 x))
end Go.Proofs.YtglekdhdogjnoaaDoor
