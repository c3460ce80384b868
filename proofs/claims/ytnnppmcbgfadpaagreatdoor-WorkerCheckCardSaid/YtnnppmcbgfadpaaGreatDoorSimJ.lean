/- Cells stored in a row, in a real world. -/
import Derived.Test.YtnnppmcbgfadpaaGreatDoorSimI
namespace Go.Proofs.YtnnppmcbgfadpaaGreatDoor
open Go.RowKit
theorem storeCells_row {P : Program} (b o : Nat) (e : TypeId) (fz : Nat × Nat) : ∀ (vs : List Value) (i : Nat) (w : World) (c : Array Value), w.heap[b]? = some (.cells c e fz) →
    (∀ k, o + i ≤ k → ¬ (fz.1 ≤ k ∧ k < fz.2)) → o + i + vs.length ≤ c.size → (∀ v ∈ vs, (∀ cs, v ≠ .agg cs) ∧ ∀ cs, v ≠ .tuple cs) →
    ∃ w1 c1, (storeCells ⟨b, o, none⟩ vs i).run P w = .ok () w1 ∧ w1.heap.size = w.heap.size ∧ w1.heap[b]? = some (.cells c1 e fz) ∧ (∀ j, j ≠ b → w1.heap[j]? = w.heap[j]?) ∧
      w1.os = w.os ∧ w1.tape = w.tape ∧ w1.output = w.output ∧ c1.size = c.size ∧ (∀ k, k < o + i ∨ o + i + vs.length ≤ k → c1[k]? = c[k]?) ∧ (∀ k, k < vs.length → c1[o + i + k]? = vs[k]?)
  | [], i, w, c, hb, _, _, _ => ⟨w, c, rfl, rfl, hb, fun _ _ => rfl, rfl, rfl, rfl, rfl, fun _ _ => rfl, fun k hk => by simp at hk⟩
  | v :: vs, i, w, c, hb, hf, hs, hv => by
    simp only [List.length_cons] at hs
    obtain ⟨n1, n2⟩ := hv v (by simp)
    have hlt : o + i < c.size := by omega
    have hcell : w.cell? ⟨b, o + i, none⟩ = some c[o + i] := by
      unfold World.cell?
      simp only [hb, Option.isSome_none, Bool.false_eq_true, if_false]
      exact Array.getElem?_eq_getElem hlt
    have hfr : w.frozen? ⟨b, o + i, none⟩ = false := by
      unfold World.frozen?
      obtain ⟨lo, hi⟩ := fz
      simp only [hb]
      cases hd : (decide (lo ≤ o + i) && decide (o + i < hi)) with
      | false => rfl
      | true => simp only [Bool.and_eq_true, decide_eq_true_eq] at hd; exact (hf (o + i) (Nat.le_refl _) hd).elim
    have hb1 : (w.setCell ⟨b, o + i, none⟩ v).heap[b]? = some (.cells (c.setIfInBounds (o + i) v) e fz) := by
      simp only [World.setCell, getElem?_modify', if_true, hb, Option.map_some, Option.isSome_none, Bool.false_eq_true, if_false]
    obtain ⟨w1, c1, h1, h2, h3, h4, h5, h6, h7, h8, h9, h10⟩ := storeCells_row b o e fz vs (i + 1) _ _ hb1 (fun k hk => hf k (by omega)) (by simp; omega) (fun x hx => hv x (by simp [hx]))
    refine ⟨w1, c1, ?_, ?_, h3, ?_, h5, h6, h7, ?_, ?_, ?_⟩
    · show (store ((⟨b, o, none⟩ : Addr).add i) v >>= fun _ => storeCells ⟨b, o, none⟩ vs (i + 1)).run P w = _
      rw [add_plain, Sem.run_bind, store_run n1 n2 hcell hfr]
      exact h1
    · rw [h2]; simp [World.setCell]
    · intro j hj
      rw [h4 j hj]
      simp only [World.setCell, getElem?_modify', if_neg (fun e : b = j => hj e.symm)]
    · rw [h8]; simp
    · intro k hk
      simp only [List.length_cons] at hk
      rw [h9 k (by omega), Array.getElem?_setIfInBounds, if_neg (by omega)]
    · intro k hk
      simp only [List.length_cons] at hk
      cases k with
      | zero =>
        rw [Nat.add_zero, h9 (o + i) (by omega), Array.getElem?_setIfInBounds, if_pos rfl, if_pos hlt]
        rfl
      | succ k =>
        rw [show o + i + (k + 1) = o + (i + 1) + k by omega, h10 k (by omega)]
        rfl
end Go.Proofs.YtnnppmcbgfadpaaGreatDoor
