/- The reference's files, Word and Line, walked. -/
import Derived.Test.YtglekdhdogjnoaaDoorRefC
namespace Go.Proofs.YtglekdhdogjnoaaDoor
open Go.RowKit
set_option linter.unusedSimpArgs false
def filesL (fs : List File) : List UInt8 := fs.flatMap fun f => 32 :: quoteL f.1.data.toList ++ 32 :: quoteL f.2.data.toList
def FileSmall (f : File) : Prop := f.1.size ≤ 2000 ∧ f.2.size ≤ 2000
theorem quoteL_le (l : List UInt8) : (quoteL l).length ≤ 4 * l.length + 2 := by
  have := quote_le l; simp only [quoteL, List.length_append, List.length_cons, List.length_nil]; omega
theorem filesL_le (fs : List File) (h : ∀ f ∈ fs, FileSmall f) : (filesL fs).length ≤ 20000 * fs.length := by
  induction fs with
  | nil => simp [filesL]
  | cons f fs ih =>
    have h0 := h f (by simp)
    have h1 := quoteL_le f.1.data.toList
    have h3 := quoteL_le f.2.data.toList
    have h2 := ih (fun y hy => h y (by simp [hy]))
    have e1 : f.1.data.toList.length = f.1.size := by simp
    have e2 : f.2.data.toList.length = f.2.size := by simp
    simp only [FileSmall] at h0
    simp only [filesL, List.flatMap_cons, List.length_append, List.length_cons] at *; omega
def wordL (n : Int) : List UInt8 :=
  if n = 1 then [115, 117, 98, 109, 105, 116] else if n = 2 then [97, 112, 112, 114, 111, 118, 101] else if n = 3 then [116, 105, 99, 107] else if n = 4 then [99, 117, 116]
  else if n = 5 then [112, 111, 119, 101, 114] else if n = 6 then [119, 111, 114, 107, 101, 114] else if n = 7 then [114, 111, 108, 108, 98, 97, 99, 107] else if n = 8 then [114, 117, 110] else [105, 110, 112, 117, 116]
theorem wordL_le (n : Int) : (wordL n).length ≤ 10 := by
  unfold wordL; repeat' split
  all_goals simp
theorem wordL_out (n : Int) (h : n < 1 ∨ 8 < n) : wordL n = [105, 110, 112, 117, 116] := by
  unfold wordL
  rw [if_neg (by omega), if_neg (by omega), if_neg (by omega), if_neg (by omega), if_neg (by omega), if_neg (by omega), if_neg (by omega), if_neg (by omega)]
end Go.Proofs.YtglekdhdogjnoaaDoor
