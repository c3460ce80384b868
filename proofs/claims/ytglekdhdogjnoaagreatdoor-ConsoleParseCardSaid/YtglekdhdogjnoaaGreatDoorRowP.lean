/- The listed variables as the row gives them: the table of powers of ten, and the two errors of strconv. -/
import Derived.Test.YtglekdhdogjnoaaGreatDoorPrsD
import Derived.Test.YtglekdhdogjnoaaGreatDoorTie
import Derived.Test.YtglekdhdogjnoaaGreatDoorCards
import Derived.ProofKit
import Derived.LaidMore
import Derived.OpenShut
import Derived.Stop.Joined
import Derived.Stop.LaidErr
import Derived.Lib.LaidTab
import Derived.Carry
import Derived.ChangeMaps5
namespace Go.Proofs.YtglekdhdogjnoaaGreatDoor
open Go.ChangeShapes Go.WideShapes Go.ChangeAt Go.WideMaps Go.WideElems Go.RowKit
set_option maxRecDepth 100000
theorem ownK : ownKnob Tryz.prog.godebug = none := by kernel_rfl
theorem laidOutP : laidOutB Tryz.prog = true := by kernel_rfl
abbrev laidL : List (String × DataW Unit) := [("math/bits.deBruijn32tab", Rows.laid_math_bits_deBruijn32tab), ("math/bits.deBruijn64tab", Rows.laid_math_bits_deBruijn64tab), ("internal/strconv.uint64pow10", Rows.laid_internal_strconv_uint64pow10), ("strconv.ErrRange", Rows.laid_strconv_ErrRange), ("strconv.ErrSyntax", Rows.laid_strconv_ErrSyntax)]
theorem door_met (os : Os) (args : Array Value) : laidMetH Tryz.prog laidL ((World.doorLaid Tryz.prog 62 os).forCall (fun _ _ => 0) ⟨#[], args, []⟩).memory :=
  laidMetH_of_parts3 (fuel := 8) (laidMet_of_run' 8 (by kernel_rfl) (by kernel_rfl)) (by kernel_rfl) (by kernel_rfl)
theorem tab_of_laid {W : World} (h : laidMetH Tryz.prog laidL W) : Tab10 W := by
  rw [MakeChecks.laidMetH_plain _ _ _ (by kernel_rfl)] at h
  exact Lib.tabIs_of_head (g := 1) (t := 135) (e := 119) (n := 20) (rest := [("strconv.ErrRange", Rows.laid_strconv_ErrRange), ("strconv.ErrSyntax", Rows.laid_strconv_ErrSyntax)]) glob10 (by kernel_rfl) (by kernel_rfl) (by kernel_rfl) (by kernel_rfl) (by kernel_rfl) h.tail.tail
theorem errStar : "*" ++ "errors.errorString" = "*errors.errorString" := by decide
theorem errRow (u : TypeId) (h : Tryz.prog.typeName? 3 u = some "*errors.errorString") : u = 146 :=
  typeName_ptr_named (nm := "errors.errorString") (by rw [errStar]; kernel_rfl) (by kernel_rfl) (by decide) u (by rw [errStar]; exact h)
theorem errs_of_laid {W : World} (h : laidMetH Tryz.prog laidL W) : Errs W := by
  rw [MakeChecks.laidMetH_plain _ _ _ (by kernel_rfl)] at h
  obtain ⟨a, _, h3, _⟩ := laid_sentinel (g := 3) (ti := 103) (tp := 146) (te := 148) (ts := 9) h.tail.tail.tail (by kernel_rfl) (by kernel_rfl) Tryz.underlying103 errRow Tryz.underlying146 Tryz.underlying148 rfl rfl Tryz.underlying9 (by kernel_rfl) (by kernel_rfl)
  obtain ⟨b, _, h2, _⟩ := laid_sentinel (g := 2) (ti := 103) (tp := 146) (te := 148) (ts := 9) h.tail.tail.tail.tail (by kernel_rfl) (by kernel_rfl) Tryz.underlying103 errRow Tryz.underlying146 Tryz.underlying148 rfl rfl Tryz.underlying9 (by kernel_rfl) (by kernel_rfl)
  have c3 := World.var?_cell (g := 3) (by kernel_rfl) h3 0
  have c2 := World.var?_cell (g := 2) (by kernel_rfl) h2 0
  exact ⟨⟨_, _, c2⟩, ⟨_, _, c3⟩⟩
end Go.Proofs.YtglekdhdogjnoaaGreatDoor
