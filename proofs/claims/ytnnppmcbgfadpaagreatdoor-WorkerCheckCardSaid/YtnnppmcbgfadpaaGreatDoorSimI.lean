/- The runs of append: in place, and into a new row. -/
import Derived.Test.YtnnppmcbgfadpaaGreatDoorSimH
namespace Go.Proofs.YtnnppmcbgfadpaaGreatDoor
open Go.RowKit
section
variable {P : Program} {w : World}
/-- The types of an append of elements. -/
structure AppTypes (P : Program) (ts : Array TypeId) (e : TypeId) (z : Nat) : Prop where
  st : ∃ t, ts[0]? = some t ∧ ∀ w, (underlying t).run P w = .ok (.slice e) w
  xt : ∃ t d, ts[1]? = some t ∧ (∀ w, (underlying t).run P w = .ok d w) ∧ ∀ k, d ≠ .int k
  size : ∀ w, (sizeOf e).run P w = .ok z w
theorem append_none {ts : Array TypeId} {ty e : TypeId} {z n c : Nat} {base : Option Addr} {x : Value} (ht : AppTypes P ts e z) (hl : ∀ w, (Builtin.lenOf x).run P w = .ok 0 w) (hc : n ≤ c)
    (hx : (Builtin.firstCells z 0 x).run P w = .ok #[] w) : (Builtin.append_ ts ty #[.slice base n c, x]).run P w = .ok (.slice base n c) w := by
  obtain ⟨t, h1, h2⟩ := ht.st
  obtain ⟨u, d, h3, h4, h5⟩ := ht.xt
  unfold Builtin.append_
  simp only [h1, h3, List.getElem?_toArray, List.getElem?_cons_zero, List.getElem?_cons_succ, Sem.run_bind, h2, Result.andThen_ok, ht.size, h4, Sem.run_pure]
  cases d <;> first | exact (h5 _ rfl).elim | skip
  all_goals
    simp only [Bool.false_eq_true, if_false, Sem.run_bind, hl, Result.andThen_ok, Nat.add_zero, if_pos hc, Bool.not_false, if_true, hx]
    cases base <;> simp [storeCells]
theorem append_in {ts : Array TypeId} {ty e : TypeId} {z n c m : Nat} {a : Addr} {x : Value} {new : Array Value} {w1 : World} (ht : AppTypes P ts e z) (hl : ∀ w, (Builtin.lenOf x).run P w = .ok m w) (hc : n + m ≤ c)
    (hx : (Builtin.firstCells z m x).run P w = .ok new w) (hst : (storeCells (a.add (n * z)) new.toList).run P w = .ok () w1) : (Builtin.append_ ts ty #[.slice (some a) n c, x]).run P w = .ok (.slice (some a) (n + m) c) w1 := by
  obtain ⟨t, h1, h2⟩ := ht.st
  obtain ⟨u, d, h3, h4, h5⟩ := ht.xt
  unfold Builtin.append_
  simp only [h1, h3, List.getElem?_toArray, List.getElem?_cons_zero, List.getElem?_cons_succ, Sem.run_bind, h2, Result.andThen_ok, ht.size, h4, Sem.run_pure]
  cases d <;> first | exact (h5 _ rfl).elim | skip
  all_goals
    simp only [Bool.false_eq_true, if_false, Sem.run_bind, hl, Result.andThen_ok, if_pos hc, Bool.not_false, if_true, hx, hst, Sem.run_pure]
theorem append_grow {ts : Array TypeId} {ty e : TypeId} {z n c m : Nat} {base : Option Addr} {x v0 : Value} {old new : Array Value} {i : TypeInfo} (ht : AppTypes P ts e z) (hl : ∀ w, (Builtin.lenOf x).run P w = .ok m w) (hc : ¬ n + m ≤ c)
    (hi : ∀ w, (typeInfo e).run P w = .ok i w) (hz0 : ∀ w, (zeroValue e).run P w = .ok v0 w) (hbig : (n + m : Int) ≤ IntKind.i64.max) (hroom : Builtin.nextslicecap (n + m) c * i.bytes ≤ 2 ^ 48)
    (ho : (Builtin.firstCells z n (.slice base n c)).run P { w with drawn := w.drawn + 1 } = .ok old { w with drawn := w.drawn + 1 }) (hx : (Builtin.firstCells z m x).run P { w with drawn := w.drawn + 1 } = .ok new { w with drawn := w.drawn + 1 }) :
    ∃ k w1, n + m ≤ k ∧ w1.heap = w.heap.push (.cells (old ++ new ++ Builtin.zeroCells v0.cells (k - (n + m))) e) ∧ w1.os = w.os ∧ w1.tape = w.tape ∧ w1.output = w.output ∧
      (Builtin.append_ ts ty #[.slice base n c, x]).run P w = .ok (.slice (some ⟨w.heap.size, 0, none⟩) (n + m) k) w1 := by
  obtain ⟨t, h1, h2⟩ := ht.st
  obtain ⟨u, d, h3, h4, h5⟩ := ht.xt
  refine ⟨(Question.appendCap (n + m) c e).cut (w.tape w.drawn (.appendCap (n + m) c e)), { w with drawn := w.drawn + 1, heap := w.heap.push (.cells (old ++ new ++ Builtin.zeroCells v0.cells ((Question.appendCap (n + m) c e).cut (w.tape w.drawn (.appendCap (n + m) c e)) - (n + m))) e) }, ?_, rfl, rfl, rfl, rfl, ?_⟩
  · unfold Question.cut; exact Nat.le_add_right _ _
  · have hask : ∀ (b : Nat) (w : World), (askRoom b).run P w = .ok () w := by intro b w; unfold askRoom; split <;> rfl
    have hch : (choose (.appendCap (n + m) c e)).run P w = .ok ((Question.appendCap (n + m) c e).cut (w.tape w.drawn (.appendCap (n + m) c e))) { w with drawn := w.drawn + 1 } := rfl
    have hnr : ∀ (cs : Array Value) (w : World), (newRow e cs).run P w = .ok ⟨w.heap.size, 0, none⟩ { w with heap := w.heap.push (.cells cs e) } := fun _ _ => rfl
    unfold Builtin.append_
    simp only [h1, h3, List.getElem?_toArray, List.getElem?_cons_zero, List.getElem?_cons_succ, Sem.run_bind, h2, Result.andThen_ok, ht.size, h4, Sem.run_pure]
    cases d <;> first | exact (h5 _ rfl).elim | skip
    all_goals
      simp only [Bool.false_eq_true, if_false, Sem.run_bind, hl, Result.andThen_ok, if_neg hc, Bool.not_false, if_true, hi, false_or, Sem.run_pure]
      rw [if_neg (by omega)]
      simp only [Sem.run_bind, hi, Result.andThen_ok, Sem.run_pure]
      rw [if_neg (by omega)]
      simp only [Sem.run_bind, hch, hi, hask, Result.andThen_ok, Sem.run_pure, hz0, hnr]
      rw [ho, Result.andThen_ok, hx, Result.andThen_ok]
end
end Go.Proofs.YtnnppmcbgfadpaaGreatDoor
