/- The reference's Show and GreatOutcome, walked. -/
import Derived.Test.YtglekdhdogjnoaaDoorShwC
namespace Go.Proofs.YtglekdhdogjnoaaDoor
open Go.RowKit
set_option linter.unusedSimpArgs false
end Go.Proofs.YtglekdhdogjnoaaDoor
