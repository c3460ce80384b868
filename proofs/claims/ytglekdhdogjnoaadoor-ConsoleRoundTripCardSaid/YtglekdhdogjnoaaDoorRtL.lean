/- No line of an input holds a line feed. -/
import Derived.Test.YtglekdhdogjnoaaDoorParseLawC
import Derived.Lib.Bytealg
namespace Go.Proofs.YtglekdhdogjnoaaDoor
open Go.RowKit
theorem hex_ne10 : ∀ n : Fin 16, (10 : UInt8) ≠ hexD n.val := by decide +kernel
theorem ne10 {c : UInt8} (h : c.toNat ≠ 10) : (10 : UInt8) ≠ c := by rintro rfl; exact h rfl
theorem esc_no10 (c : UInt8) : (10 : UInt8) ∉ escB c := by
  have hc := c.toNat_lt
  by_cases h1 : c.toNat = 34 ∨ c.toNat = 92
  · rw [esc1 h1]
    have := ne10 (c := c) (by omega)
    simp [this]
  by_cases h2 : c.toNat = 10
  · rw [esc2 h2]; decide
  by_cases h3 : c.toNat < 32 ∨ 126 < c.toNat
  · rw [esc3 h2 h3]
    have a := hex_ne10 ⟨c.toNat / 16, by omega⟩
    have b := hex_ne10 ⟨c.toNat % 16, by omega⟩
    simp only [ne_eq] at a b
    simp [a, b]
  · rw [esc4 (by omega) (by omega) h2 h3]
    have := ne10 (c := c) (by omega)
    simp [this]
theorem quote_no10 (l : List UInt8) : (10 : UInt8) ∉ quoteL l := by
  intro h
  simp only [quoteL, List.cons_append, List.mem_cons, List.mem_append, List.mem_flatMap, List.not_mem_nil, or_false] at h
  rcases h with h | ⟨c, _, h⟩ | h
  · exact absurd h (by decide)
  · exact esc_no10 c h
  · exact absurd h (by decide)
theorem itoa_no10 (n : Int) : (10 : UInt8) ∉ Lib.itoa n := by
  intro h
  rcases itoa_mem n _ h with h | ⟨h, _⟩
  · exact absurd h (by decide)
  · exact absurd h (by decide)
theorem word_no10 (k : Int) : (10 : UInt8) ∉ wordL k := by
  unfold wordL
  repeat' split
  all_goals decide
theorem files_no10 (fs : List File) : (10 : UInt8) ∉ filesL fs := by
  rw [← enc_files]
  intro h
  simp only [List.mem_flatMap, List.mem_cons, fileParts, List.not_mem_nil, or_false] at h
  obtain ⟨q, ⟨f, _, rfl | rfl⟩, h | h⟩ := h
  · exact absurd h (by decide)
  · exact quote_no10 _ (by simpa [encP] using h)
  · exact absurd h (by decide)
  · exact quote_no10 _ (by simpa [encP] using h)
theorem nums_no10 (xs : List Int) : (10 : UInt8) ∉ numsL xs := by
  rw [← enc_nums]
  intro h
  simp only [List.mem_flatMap, List.mem_cons, List.mem_map] at h
  obtain ⟨q, ⟨n, _, rfl⟩, h | h⟩ := h
  · exact absurd h (by decide)
  · exact itoa_no10 n (by simpa [encP, numPart, itoaS, S_list] using h)
theorem line_no10 (A : PAct) : (10 : UInt8) ∉ lineL A := by
  have e : ¬ (10 : UInt8) = 32 := by decide
  unfold lineL
  have a := word_no10 A.kind
  have b := quote_no10 A.who.data.toList
  have c := files_no10 A.files
  repeat' split
  all_goals simp [a, b, c, e, nums_no10]
theorem index_none (c : UInt8) : ∀ l : List UInt8, c ∉ l → Lib.indexByte l c = -1
  | [], _ => rfl
  | b :: l, h => by
    have h1 : ¬ b = c := fun e => h (by simp [e])
    have h2 := index_none c l (fun e => h (by simp [e]))
    simp [Lib.indexByte, h1, h2]
end Go.Proofs.YtglekdhdogjnoaaDoor
