/- The reference's Line, walked. -/
import Derived.Test.YtglekdhdogjnoaaDoorRefD
namespace Go.Proofs.YtglekdhdogjnoaaDoor
open Go.RowKit
set_option linter.unusedSimpArgs false
theorem IntsAt.grow {w w' : World} {v : Value} {xs : List Int} (h : Grow w w') (k : IntsAt w v xs) : IntsAt w' v xs := k.keep (Keeps.of_below h)
theorem ints_new1 (w : World) (a : Int) (ha : I64 a) : IntsAt (w.alloc (.cells #[.int .i64 a] 3)) (.slice (some ⟨w.heap.size, 0, none⟩) 1 1) [a] := by
  refine ⟨_, 1, rfl, by simp, by simpa using ha, Or.inr ⟨_, _, rfl, ?_⟩⟩
  intro j x hj
  match j, hj with
  | 0, hj => simp at hj; subst hj; simp [go_sem]
theorem ints_new2 (w : World) (a b : Int) (ha : I64 a) (hb : I64 b) : IntsAt (w.alloc (.cells #[.int .i64 a, .int .i64 b] 3)) (.slice (some ⟨w.heap.size, 0, none⟩) 2 2) [a, b] := by
  refine ⟨_, 2, rfl, by simp, by simp [ha, hb], Or.inr ⟨_, _, rfl, ?_⟩⟩
  intro j x hj
  match j, hj with
  | 0, hj => simp at hj; subst hj; simp [go_sem]
  | 1, hj => simp at hj; subst hj; simp [go_sem]
/-- What the line of an input is, where it has one. -/
def lineL (A : PAct) : List UInt8 :=
  if A.kind = 1 then wordL A.kind ++ 32 :: quoteL A.who.data.toList ++ numsL [A.priority, A.at_] ++ filesL A.files
  else if A.kind = 2 ∨ A.kind = 7 then wordL A.kind ++ 32 :: quoteL A.who.data.toList ++ numsL [A.change]
  else if A.kind = 4 then wordL A.kind ++ numsL A.picks
  else if A.kind = 5 ∨ A.kind = 8 then wordL A.kind ++ numsL [A.count]
  else if A.kind = 6 then wordL A.kind ++ 32 :: quoteL A.who.data.toList ++ numsL [A.count, A.at_]
  else wordL A.kind
/-- Small enough for the statements. -/
structure Small (A : PAct) : Prop where
  who : A.who.size ≤ 1000
  nfiles : A.files.length ≤ 100
  files : ∀ f ∈ A.files, FileSmall f
  npicks : A.picks.length ≤ 1000
def lineR (A : PAct) : Value := if checkN A = 0 then .tuple #[.string (S (lineL A)), .int .i64 0] else .tuple #[.string ⟨#[]⟩, .int .i64 (checkN A)]
end Go.Proofs.YtglekdhdogjnoaaDoor
