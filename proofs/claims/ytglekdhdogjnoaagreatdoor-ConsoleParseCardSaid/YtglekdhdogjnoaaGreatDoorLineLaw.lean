/- The line that the program writes is the line of the reference: plain lists of bytes. -/
import Derived.Test.YtglekdhdogjnoaaGreatDoorPrgD
namespace Go.Proofs.YtglekdhdogjnoaaGreatDoor
open Go.RowKit
theorem joinS_cons (x : ByteArray) (xs : List ByteArray) : joinS (x :: xs) = x.data.toList ++ xs.flatMap (fun y => 32 :: y.data.toList) := by
  unfold joinS
  rw [List.map_cons, Lib.join_cons]
  congr 1
  induction xs with
  | nil => rfl
  | cons y ys ih =>
    simp only [Lib.joinTail, List.map_cons, List.flatten_cons, List.flatMap_cons] at ih ⊢
    rw [ih]; rfl
/-- The words of an input behind its first one. -/
def wordsOf (A : PAct) : List ByteArray :=
  if A.kind = 1 then [S (quoteL A.who.data.toList), itoaS A.priority, itoaS A.at_] ++ A.files.flatMap fileWords
  else if A.kind = 2 ∨ A.kind = 7 then [S (quoteL A.who.data.toList), itoaS A.change]
  else if A.kind = 4 then A.picks.map itoaS
  else if A.kind = 5 ∨ A.kind = 8 then [itoaS A.count]
  else if A.kind = 6 then [S (quoteL A.who.data.toList), itoaS A.count, itoaS A.at_]
  else []
def badOf (A : PAct) : Bool :=
  if A.kind = 1 then largeB A.priority || largeB A.at_
  else if A.kind = 2 ∨ A.kind = 7 then largeB A.change
  else if A.kind = 4 then A.picks.any largeB
  else if A.kind = 5 ∨ A.kind = 8 then largeB A.count
  else if A.kind = 6 then largeB A.count || largeB A.at_
  else false
theorem flat_files (fs : List File) : (fs.flatMap fileWords).flatMap (fun y => 32 :: y.data.toList) = filesL fs := by
  induction fs with
  | nil => rfl
  | cons f fs ih =>
    rw [List.flatMap_cons, List.flatMap_append, ih]
    simp [filesL, fileWords, S_list]
theorem flat_nums (xs : List Int) : (xs.map itoaS).flatMap (fun y => 32 :: y.data.toList) = numsL xs := by
  induction xs with
  | nil => rfl
  | cons f fs ih =>
    rw [List.map_cons, List.flatMap_cons, ih]
    simp [numsL, itoaS, S_list]
theorem join_line (A : PAct) : joinS (S (wordL A.kind) :: wordsOf A) = lineL A := by
  rw [joinS_cons, S_list, lineL, wordsOf]
  split
  · rw [List.flatMap_append, flat_files]
    simp [numsL, itoaS, S_list]
  split
  · simp [numsL, itoaS, S_list]
  split
  · rw [flat_nums]
  split
  · simp [numsL, itoaS, S_list]
  split
  · simp [numsL, itoaS, S_list]
  · simp
theorem large0 : largeB 0 = false := by decide
theorem bad_of (A : PAct) (h : xB A = false) : badB A = badOf A := by
  have hx := h
  simp only [xB, extraB, Bool.or_eq_false_iff] at hx
  obtain ⟨⟨⟨⟨⟨⟨-, h2⟩, h3⟩, h4⟩, h5⟩, -⟩, h7⟩ := hx
  have k2 : A.kind ≠ 2 ∧ A.kind ≠ 7 → A.change = 0 := by
    intro hk; by_cases hc : A.change = 0
    · exact hc
    · simp [extra2, hc, hk.1, hk.2] at h2
  have k3 : A.kind ≠ 1 → A.priority = 0 := by
    intro hk; by_cases hc : A.priority = 0
    · exact hc
    · simp [extra3, hc, hk] at h3
  have k4 : A.kind ≠ 1 ∧ A.kind ≠ 6 → A.at_ = 0 := by
    intro hk; by_cases hc : A.at_ = 0
    · exact hc
    · simp [extra4, hc, hk.1, hk.2] at h4
  have k5 : A.kind ≠ 5 ∧ A.kind ≠ 6 ∧ A.kind ≠ 8 → A.count = 0 := by
    intro hk; by_cases hc : A.count = 0
    · exact hc
    · simp [extra5, hc, hk.1, hk.2.1, hk.2.2] at h5
  have k7 : A.kind ≠ 4 → A.picks = [] := by
    intro hk
    cases hp : A.picks with
    | nil => rfl
    | cons x xs => simp [extra7, hp, hk] at h7
  clear h h2 h3 h4 h5 h7
  unfold badB badOf
  split
  · rename_i hk
    rw [k2 (by omega), k5 (by omega), k7 (by omega)]; simp [large0]
  split
  · rename_i _ hk
    rw [k3 (by omega), k4 (by omega), k5 (by omega), k7 (by omega)]; simp [large0]
  split
  · rename_i _ _ hk
    rw [k2 (by omega), k3 (by omega), k4 (by omega), k5 (by omega)]; simp [large0]
  split
  · rename_i _ _ _ hk
    rw [k2 (by omega), k3 (by omega), k4 (by omega), k7 (by omega)]; simp [large0]
  split
  · rename_i _ _ _ _ hk
    rw [k2 (by omega), k3 (by omega), k7 (by omega)]; simp [large0, Bool.or_comm]
  · rw [k2 (by omega), k3 (by omega), k4 (by omega), k5 (by omega), k7 (by omega)]; simp [large0]
theorem long_of (A : PAct) (h : Small A) : longB A = false := by
  have h1 := h.who; have h2 := h.nfiles; have h3 := h.npicks
  have h4 : A.files.any fileLong = false := by
    rw [List.any_eq_false]
    intro f hf
    have := h.files f hf
    simp only [FileSmall] at this
    simp [fileLong]; omega
  simp only [longB, h4, Bool.or_false, Bool.or_eq_false_iff, decide_eq_false_iff_not]
  omega
/-- What the program's Line answers. -/
def progR (A : PAct) : Value := if A.kind < 1 ∨ 8 < A.kind then .tuple #[.string ⟨#[]⟩, .int .i64 9] else if xB A then .tuple #[.string ⟨#[]⟩, .int .i64 1] else wlineR (S (wordL A.kind) :: wordsOf A) (badOf A) false
theorem progR_eq (A : PAct) (h : Small A) : progR A = lineR A := by
  unfold progR lineR checkN
  by_cases hk : A.kind < 1 ∨ 8 < A.kind
  · rw [if_pos hk, if_pos hk]; simp
  · rw [if_neg hk, if_neg hk]
    cases hx : xB A
    · simp only [Bool.false_eq_true, if_false]
      rw [bad_of A hx, long_of A h, wlineR, join_line]
      cases hb : badOf A <;> simp
    · simp
theorem joinS_len (A : PAct) (h : Small A) (hr : ∀ x ∈ A.picks, I64 x) (hc : I64 A.change) (hp : I64 A.priority) (ha : I64 A.at_) (ho : I64 A.count) : (joinS (S (wordL A.kind) :: wordsOf A)).length ≤ 140737488355328 := by
  rw [join_line]
  have w1 := wordL_le A.kind
  have w2 := quoteL_le A.who.data.toList
  have w3 : A.who.data.toList.length ≤ 1000 := by have := h.who; simpa using this
  have w4 := filesL_le A.files h.files
  have w5 := h.nfiles
  have w6 := numsL_le A.picks hr
  have w7 := h.npicks
  have n1 := numsL_le [A.priority, A.at_] (by simp [hp, ha])
  have n2 := numsL_le [A.change] (by simp [hc])
  have n3 := numsL_le [A.count] (by simp [ho])
  have n4 := numsL_le [A.count, A.at_] (by simp [ho, ha])
  simp only [List.length_cons, List.length_nil] at n1 n2 n3 n4
  unfold lineL
  repeat' split
  all_goals try simp only [List.length_append, List.length_cons]
  all_goals omega
theorem wordsOf_len (A : PAct) (h : Small A) : (wordsOf A).length ≤ 2000 := by
  have w5 := h.nfiles
  have w7 := h.npicks
  unfold wordsOf
  repeat' split
  all_goals simp only [List.length_append, List.length_cons, List.length_nil, fileWords_len, List.length_map]
  all_goals omega
end Go.Proofs.YtglekdhdogjnoaaGreatDoor
