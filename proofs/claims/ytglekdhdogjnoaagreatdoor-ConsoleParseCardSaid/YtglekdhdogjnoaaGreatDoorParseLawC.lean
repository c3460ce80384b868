/- What is read from a short line is small. -/
import Derived.Test.YtglekdhdogjnoaaGreatDoorParseLawB
namespace Go.Proofs.YtglekdhdogjnoaaGreatDoor
open Go.RowKit
theorem wts_cons (p : PPart) (ps : List PPart) : wts (p :: ps) = wt p + wts ps := by simp [wts]
theorem wt_pos (p : PPart) : p.text.size + 1 ≤ wt p := by unfold wt; split <;> omega
theorem wt_quoted (p : PPart) (h : p.quoted = true) : p.text.size + 3 = wt p := by unfold wt; rw [if_pos h]
theorem next_wts (R : Rd) (q : Bool) : (R.next q).1.size ≤ wts R.parts ∧ wts (R.next q).2.parts ≤ wts R.parts := by
  obtain ⟨ps, wr⟩ := R
  cases ps with
  | nil => simp [Rd.next, ByteArray.size]
  | cons p ps =>
    have := wt_pos p
    simp only [Rd.next]
    split
    · simp only [wts_cons]; omega
    · simp only [wts_cons, ByteArray.size, List.size_toArray, List.length_nil]; omega
theorem files_wts : ∀ (ps : List PPart), 6 * (filesF ps).1.length ≤ wts ps + 3 ∧ ∀ f ∈ (filesF ps).1, f.1.size ≤ wts ps ∧ f.2.size ≤ wts ps
  | [] => by simp [filesF]
  | [p] => by
    by_cases h : p.quoted = true
    · have := wt_quoted p h
      simp only [filesF, h, if_true, wts_cons, List.length_cons, List.length_nil]
      refine ⟨by omega, ?_⟩
      intro f hf
      simp only [List.mem_singleton] at hf
      subst hf
      exact ⟨by simp only; omega, by simp [ByteArray.size]⟩
    · simp [filesF, h]
  | p :: q :: ps => by
    by_cases h : p.quoted = true
    · have := wt_quoted p h
      by_cases h2 : q.quoted = true
      · have := wt_quoted q h2
        obtain ⟨i1, i2⟩ := files_wts ps
        simp only [filesF, h, h2, if_true, wts_cons, List.length_cons]
        refine ⟨by omega, ?_⟩
        intro f hf
        rcases List.mem_cons.1 hf with rfl | hf
        · exact ⟨by simp only; omega, by simp only; omega⟩
        · have := i2 f hf
          omega
      · simp only [filesF, h, if_true, if_neg h2, wts_cons, List.length_cons, List.length_nil]
        refine ⟨by omega, ?_⟩
        intro f hf
        simp only [List.mem_singleton] at hf
        subst hf
        exact ⟨by simp only; omega, by simp [ByteArray.size]⟩
    · simp [filesF, h]
theorem picks_wts : ∀ (ps : List PPart), (picksF ps).1.length ≤ wts ps
  | [] => by simp [picksF]
  | p :: ps => by
    have := wt_pos p
    have := picks_wts ps
    rw [picksF, wts_cons]
    split
    · simp only [List.length_cons, List.length_nil]; omega
    · simp only [List.length_cons]; omega
theorem read_small (k : Int) (R : Rd) (h : wts R.parts ≤ 500) : Small (readP k R).1 := by
  have n1 := next_wts R true
  have e1 : ∀ r : Rd, wts r.number.2.parts ≤ wts r.parts := fun r => (next_wts r false).2
  have f1 : ∀ r : Rd, 6 * r.files.1.length ≤ wts r.parts + 3 ∧ ∀ f ∈ r.files.1, f.1.size ≤ wts r.parts ∧ f.2.size ≤ wts r.parts := by
    intro r; unfold Rd.files; split
    · simp
    · exact files_wts r.parts
  have p1 : R.picks.1.length ≤ wts R.parts := by
    unfold Rd.picks; split
    · simp
    · exact picks_wts R.parts
  unfold readP
  split
  · obtain ⟨g1, g2⟩ := f1 (R.next true).2.number.2.number.2
    have a1 := e1 (R.next true).2
    have a2 := e1 (R.next true).2.number.2
    refine ⟨by simp only; omega, by simp only; omega, ?_, by simp⟩
    intro f hf
    have := g2 f hf
    exact ⟨by omega, by omega⟩
  · split
    · exact ⟨by simp only; omega, by simp, by simp, by simp⟩
    · split
      · exact ⟨by simp [ByteArray.size], by simp, by simp, by simp only; omega⟩
      · split
        · exact ⟨by simp [ByteArray.size], by simp, by simp, by simp⟩
        · split
          · exact ⟨by simp only; omega, by simp, by simp, by simp⟩
          · exact ⟨by simp [ByteArray.size, act0], by simp [act0], by simp [act0], by simp [act0]⟩
theorem parts_wts : ∀ (ps : List PPart), ps.length ≤ wts ps ∧ ∀ p ∈ ps, p.text.size ≤ wts ps
  | [] => by simp [wts]
  | p :: ps => by
    have := wt_pos p
    obtain ⟨i1, i2⟩ := parts_wts ps
    rw [wts_cons]
    refine ⟨by simp only [List.length_cons]; omega, ?_⟩
    intro q hq
    rcases List.mem_cons.1 hq with rfl | hq
    · omega
    · have := i2 q hq; omega
theorem word_inj {j k : Int} (hj : 1 ≤ j ∧ j ≤ 8) (hk : 1 ≤ k ∧ k ≤ 8) (h : wordL j = wordL k) : j = k := by
  have a : j = 1 ∨ j = 2 ∨ j = 3 ∨ j = 4 ∨ j = 5 ∨ j = 6 ∨ j = 7 ∨ j = 8 := by omega
  have b : k = 1 ∨ k = 2 ∨ k = 3 ∨ k = 4 ∨ k = 5 ∨ k = 6 ∨ k = 7 ∨ k = 8 := by omega
  rcases a with rfl | rfl | rfl | rfl | rfl | rfl | rfl | rfl <;> rcases b with rfl | rfl | rfl | rfl | rfl | rfl | rfl | rfl <;> first | rfl | (exfalso; revert h; decide)
/-- A line is well formed: it is the line of an input. -/
def ParseOk (l : List UInt8) (A : PAct) : Prop := checkN A = 0 ∧ lineL A = l
end Go.Proofs.YtglekdhdogjnoaaGreatDoor
