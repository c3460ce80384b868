/- The two errors of strconv, as the rows lay them. -/
import Derived.Test.YtglekdhdogjnoaaDoorRowB
import Derived.Test.YtglekdhdogjnoaaDoorPrsD
namespace Go.Proofs.YtglekdhdogjnoaaDoor
open Go.ChangeShapes Go.WideShapes Go.ChangeAt Go.WideMaps Go.WideElems Go.RowKit Go.Deep
set_option maxRecDepth 100000
theorem errStar : "*" ++ "errors.errorString" = "*errors.errorString" := by decide
theorem errRow (u : TypeId) (h : Tryd.prog.typeName? 3 u = some "*errors.errorString") : u = 140 :=
  typeName_ptr_named (nm := "errors.errorString") (by rw [errStar]; kernel_rfl) (by kernel_rfl) (by decide) u (by rw [errStar]; exact h)
theorem errs_of_laid {W : World} (h : laidMetH Tryd.prog laidL W) : Errs W := by
  rw [MakeChecks.laidMetH_plain _ _ _ (by kernel_rfl)] at h
  obtain ⟨a, _, h3, _⟩ := laid_sentinel (g := 3) (ti := 96) (tp := 140) (te := 142) (ts := 9) h.tail.tail.tail (by kernel_rfl) (by kernel_rfl) Tryd.underlying96 errRow Tryd.underlying140 Tryd.underlying142 rfl rfl Tryd.underlying9 (by kernel_rfl) (by kernel_rfl)
  obtain ⟨b, _, h2, _⟩ := laid_sentinel (g := 2) (ti := 96) (tp := 140) (te := 142) (ts := 9) h.tail.tail.tail.tail (by kernel_rfl) (by kernel_rfl) Tryd.underlying96 errRow Tryd.underlying140 Tryd.underlying142 rfl rfl Tryd.underlying9 (by kernel_rfl) (by kernel_rfl)
  have c3 := World.var?_cell (g := 3) (by kernel_rfl) h3 0
  have c2 := World.var?_cell (g := 2) (by kernel_rfl) h2 0
  exact ⟨⟨_, _, c2⟩, ⟨_, _, c3⟩⟩
end Go.Proofs.YtglekdhdogjnoaaDoor
