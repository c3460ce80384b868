/- The reference's check, GreatOutcome, Word, walked. -/
import Derived.Test.YtglekdhdogjnoaaDoorRefB
namespace Go.Proofs.YtglekdhdogjnoaaDoor
open Go.RowKit
set_option linter.unusedSimpArgs false
/-- An input lies in the eight cells of the block b. -/
def BoxAt (w : World) (b : Nat) (A : PAct) (vf vp : Value) : Prop :=
  w.cell? ⟨b, 0, none⟩ = some (.int .i64 A.kind) ∧ w.cell? ⟨b, 1, none⟩ = some (.string A.who) ∧ w.cell? ⟨b, 2, none⟩ = some (.int .i64 A.change) ∧ w.cell? ⟨b, 3, none⟩ = some (.int .i64 A.priority) ∧
  w.cell? ⟨b, 4, none⟩ = some (.int .i64 A.at_) ∧ w.cell? ⟨b, 5, none⟩ = some (.int .i64 A.count) ∧ w.cell? ⟨b, 6, none⟩ = some vf ∧ w.cell? ⟨b, 7, none⟩ = some vp
theorem BoxAt.keep {w w' : World} {b : Nat} {A : PAct} {vf vp : Value} (h : BoxAt w b A vf vp) (k : Keeps w w') : BoxAt w' b A vf vp :=
  let ⟨h0, h1, h2, h3, h4, h5, h6, h7⟩ := h
  ⟨k _ _ h0, k _ _ h1, k _ _ h2, k _ _ h3, k _ _ h4, k _ _ h5, k _ _ h6, k _ _ h7⟩
theorem ActAt.keep {w w' : World} {A : PAct} {vf vp : Value} (h : ActAt w A vf vp) (k : Keeps w w') : ActAt w' A vf vp :=
  ⟨h.files.keep k, h.picks.keep k, h.kind, h.change, h.priority, h.at_, h.count⟩
theorem box_facts (w : World) (A : PAct) (vf vp : Value) : Below w.heap.size w (w.alloc (.cells #[.int .i64 A.kind, .string A.who, .int .i64 A.change, .int .i64 A.priority, .int .i64 A.at_, .int .i64 A.count, vf, vp] 25)) ∧ BoxAt (w.alloc (.cells #[.int .i64 A.kind, .string A.who, .int .i64 A.change, .int .i64 A.priority, .int .i64 A.at_, .int .i64 A.count, vf, vp] 25)) w.heap.size A vf vp ∧ (w.alloc (.cells #[.int .i64 A.kind, .string A.who, .int .i64 A.change, .int .i64 A.priority, .int .i64 A.at_, .int .i64 A.count, vf, vp] 25)).heap.size = w.heap.size + 1 := by
  refine ⟨(Below.refl _ _).alloc (Nat.le_refl _) _, ?_, by simp⟩
  refine ⟨?_, ?_, ?_, ?_, ?_, ?_, ?_, ?_⟩ <;> simp [go_sem]
def badB (A : PAct) : Bool := largeB A.change || largeB A.priority || largeB A.at_ || largeB A.count || A.picks.any largeB
def fileLong (f : File) : Bool := decide ((65536 : Int) < f.1.size) || decide ((65536 : Int) < f.2.size)
def longB (A : PAct) : Bool := decide ((200 : Int) < A.files.length) || decide ((1000 : Int) < A.picks.length) || decide ((65536 : Int) < A.who.size) || A.files.any fileLong
def xB (A : PAct) : Bool := extraB A.kind A.who A.change A.priority A.at_ A.count A.files.length A.picks.length
def checkN (A : PAct) : Int := if A.kind < 1 ∨ 8 < A.kind then 9 else if xB A then 1 else if badB A then 2 else if longB A then 4 else 0
end Go.Proofs.YtglekdhdogjnoaaDoor
